/-
  Chapter 02: gap, and what a spaced text reads as.
-/
import Derived.Test.YtgolodpihmdmoaaNr
import Derived.Test.YtgolodpihmdmoaaNl
import Derived.Test.YtgolodpihmdmoaaLs
import Derived.Test.YtgolodpihmdmoaaLp
import Derived.ChangeSlices
import Derived.DataShut
namespace Go.Proofs.Ytgolodpihmdmoaa
open Go.ChangeShapes Go.WideShapes Go.ChangeAt Go.RowKit

def vn (c : Int) : Value := .int .u8 c

def gapL (gs : List Int) (i : Nat) : Str := if h : i < gs.length then List.replicate (gs[i] % 4).toNat 32 else []

theorem gapL_blank (gs : List Int) (i : Nat) : Blank (gapL gs i) := by
  intro c hc
  unfold gapL at hc
  split at hc
  · exact (List.mem_replicate.1 hc).2
  · cases hc
theorem gapL_len (gs : List Int) (i : Nat) : (gapL gs i).length ≤ 3 := by
  unfold gapL
  split
  · simp; omega
  · simp

theorem gap_any (u : Value) (gs : List Int) (i : Nat) (w : World) (hr : Reads vn w u gs) (hg : ∀ c ∈ gs, 0 ≤ c ∧ c < 256) (hi : i < 1000) :
    Calls Try.prog 22 #[u, .int .i64 i] w fun e w' => e = .returned (.string (toB (gapL gs i))) ∧ w = w' := by
  obtain ⟨ao, cap, rfl, hl, hm, hn, hx⟩ := hr
  unfold maxLen at hm
  by_cases hlt : i < gs.length
  · obtain ⟨b, off, rfl, hb, hc⟩ := hx (by intro e; subst e; simp at hlt)
    have h2 : w.cell? ⟨b, off + i, none⟩ = some (.int .u8 gs[i]) := hc i hlt
    have h3 := hg gs[i] (List.getElem_mem _)
    have hG : ∀ r : Nat, gs[i] % 4 = r → toB (gapL gs i) = toB (List.replicate r 32) := by
      intro r hr
      unfold gapL
      rw [dif_pos hlt, hr]; rfl
    generalize gs[i] = c at *
    have hGH := Lib.hid hG
    clear hG hc hx hn hb hg
    have ht : IntKind.u8.wrap (c.tmod 4) = c % 4 := by
      rw [Int.tmod_eq_emod_of_nonneg h3.1]
      exact IntWalk.u8_in _ (by omega)
    obtain ⟨r, hr⟩ : ∃ r : Nat, c % 4 = r := ⟨(c % 4).toNat, by omega⟩
    have hr4 : r < 4 := by omega
    have hE : (ByteArray.mk #[32, 32, 32]).extract 0 r = toB (List.replicate r 32) := by
      have h4 : r = 0 ∨ r = 1 ∨ r = 2 ∨ r = 3 := by omega
      rcases h4 with rfl | rfl | rfl | rfl <;> rfl
    have HG := Lib.hid (hE.trans (hGH.out r hr).symm)
    clear hE
    go_enter Try.func22, Try.ntmps22
    go_wp2
    go_ret
    exact ⟨by rw [HG.out]; rfl, rfl⟩
  · have hG : gapL gs i = [] := by unfold gapL; rw [dif_neg hlt]
    rw [hG]
    clear hx hn hg hG
    go_enter Try.func22, Try.ntmps22
    go_wp2
    go_ret
    exact ⟨rfl, rfl⟩

theorem itemsText_snoc : ∀ (L : List (Str × Str × Str)) (a n b : Str), L ≠ [] → itemsText (L ++ [(a, n, b)]) = itemsText L ++ 44 :: (a ++ (n ++ b))
  | [], _, _, _, h => absurd rfl h
  | [(a0, n0, b0)], a, n, b, _ => by simp [itemsText]
  | (a0, n0, b0) :: i :: r, a, n, b, _ => by
    have := itemsText_snoc (i :: r) a n b (by simp)
    show a0 ++ (n0 ++ (b0 ++ 44 :: itemsText (i :: r ++ [(a, n, b)]))) = (a0 ++ (n0 ++ (b0 ++ 44 :: itemsText (i :: r)))) ++ _
    rw [this]; simp

theorem spacedF_head {pos : Nat} {out : List Str} {a n b : Str} {r : List (Str × Str × Str)} (h : n ∈ out) : spacedF pos out ((a, n, b) :: r) = ([], 3, pos + a.length) := by
  cases r <;> simp [spacedF, h]

theorem spacedF_dup : ∀ (L : List (Str × Str × Str)) (pos : Nat) (out : List Str) (a n b : Str) (r : List (Str × Str × Str)), L ≠ [] → (out ++ L.map (·.2.1)).Nodup → n ∈ out ++ L.map (·.2.1) →
    spacedF pos out (L ++ (a, n, b) :: r) = ([], 3, pos + (itemsText L).length + 1 + a.length)
  | [], _, _, _, _, _, _, h, _, _ => absurd rfl h
  | [(a0, n0, b0)], pos, out, a, n, b, r, _, hd, hm => by
    have h0 : n0 ∉ out := by intro h; simp [List.nodup_append] at hd; exact hd.2 _ h rfl
    show spacedF pos out ((a0, n0, b0) :: (a, n, b) :: r) = _
    unfold spacedF
    rw [if_neg h0, spacedF_head (by simpa using hm)]
    simp [itemsText]; omega
  | (a0, n0, b0) :: i :: L, pos, out, a, n, b, r, _, hd, hm => by
    have h0 : n0 ∉ out := by intro h; simp [List.nodup_append] at hd; exact (hd.2.2 _ h).1 rfl
    show spacedF pos out ((a0, n0, b0) :: (i :: (L ++ (a, n, b) :: r))) = _
    unfold spacedF
    rw [if_neg h0]
    have := spacedF_dup (i :: L) (pos + a0.length + n0.length + b0.length + 1) (out ++ [n0]) a n b r (by simp) (by simpa using hd) (by simpa using hm)
    rw [List.cons_append] at this
    rw [this]
    simp [itemsText]; omega

def itemA (xs : List Str) (gs : List Int) (j : Nat) : Str × Str × Str := ((if j = 0 then gapL gs 1 else []) ++ gapL gs (2 * j + 3), xs.getD j [], gapL gs (2 * j + 4))
def itemsA (xs : List Str) (gs : List Int) (k : Nat) : List (Str × Str × Str) := (List.range k).map (itemA xs gs)
def bodyT (xs : List Str) (gs : List Int) (k : Nat) : Str := if k = 0 then gapL gs 1 else itemsText (itemsA xs gs k)
def commaT (k : Nat) : Str := if k = 0 then [] else [44]

theorem itemsA_succ (xs : List Str) (gs : List Int) (k : Nat) : itemsA xs gs (k + 1) = itemsA xs gs k ++ [itemA xs gs k] := by
  unfold itemsA; rw [List.range_succ, List.map_append]; rfl
theorem itemsA_ne (xs : List Str) (gs : List Int) {k : Nat} (h : k ≠ 0) : itemsA xs gs k ≠ [] := by
  unfold itemsA; intro e; have := congrArg List.length e; simp at this; exact h this

theorem bodyT_succ (xs : List Str) (gs : List Int) {k : Nat} (h : k < xs.length) : bodyT xs gs (k + 1) = bodyT xs gs k ++ (commaT k ++ (gapL gs (2 * k + 3) ++ (xs[k] ++ gapL gs (2 * k + 4)))) := by
  unfold bodyT commaT
  rw [if_neg (by omega), itemsA_succ]
  have hx : xs.getD k [] = xs[k] := by simp [List.getD, h]
  by_cases h0 : k = 0
  · subst h0
    rw [if_pos rfl, if_pos rfl]
    have hx2 : xs[0]?.getD [] = xs[0] := by simp [h]
    simp [itemsA, itemA, itemsText, hx2]
  · rw [if_neg h0, if_neg h0]
    unfold itemA
    rw [itemsText_snoc _ _ _ _ (itemsA_ne xs gs h0), if_neg h0, hx]
    simp

theorem bodyT_len (xs : List Str) (gs : List Int) (hx : ∀ x ∈ xs, x.length ≤ 40) : ∀ k, k ≤ xs.length → (bodyT xs gs k).length ≤ 3 + 50 * k
  | 0, _ => by unfold bodyT; simpa using gapL_len gs 1
  | k + 1, h => by
    have := bodyT_len xs gs hx k (by omega)
    rw [bodyT_succ xs gs (show k < xs.length by omega)]
    have h1 := gapL_len gs (2 * k + 3)
    have h2 := gapL_len gs (2 * k + 4)
    have h3 := hx xs[k] (List.getElem_mem _)
    have h4 : (commaT k).length ≤ 1 := by unfold commaT; split <;> simp
    simp only [List.length_append]; omega

theorem itemsA_names (xs : List Str) (gs : List Int) {k : Nat} (h : k ≤ xs.length) : (itemsA xs gs k).map (·.2.1) = xs.take k := by
  apply List.ext_getElem
  · simp [itemsA]; omega
  · intro j h1 h2
    simp [itemsA] at h1
    simp [itemsA, itemA, List.getD, show j < xs.length by omega]

theorem itemsA_at (xs : List Str) (gs : List Int) {j n : Nat} (h : j < n) : ∃ r, itemsA xs gs n = itemsA xs gs j ++ itemA xs gs j :: r := by
  induction n with
  | zero => omega
  | succ n ih =>
    rw [itemsA_succ]
    by_cases e : j = n
    · subst e; exact ⟨[], rfl⟩
    · obtain ⟨r, hr⟩ := ih (by omega)
      exact ⟨r ++ [itemA xs gs n], by rw [hr]; simp⟩

/-- Where the second place of a name lies. -/
def placeT (xs : List Str) (gs : List Int) (j : Nat) : Nat := (gapL gs 0 ++ 123 :: (bodyT xs gs j ++ (commaT j ++ gapL gs (2 * j + 3)))).length

def wholeT (xs : List Str) (gs : List Int) : Str := gapL gs 0 ++ 123 :: (bodyT xs gs xs.length ++ 125 :: gapL gs 2)

theorem items_ok (xs : List Str) (gs : List Int) (hv : ∀ x ∈ xs, validL x = true) : ∀ i ∈ itemsA xs gs xs.length, Blank i.1 ∧ Blank i.2.2 ∧ validL i.2.1 = true := by
  intro i hi
  simp only [itemsA, List.mem_map, List.mem_range] at hi
  obtain ⟨j, hj, rfl⟩ := hi
  refine ⟨?_, gapL_blank _ _, ?_⟩
  · intro c hc
    simp only [itemA, List.mem_append] at hc
    rcases hc with hc | hc
    · split at hc
      · exact gapL_blank _ _ c hc
      · cases hc
    · exact gapL_blank _ _ c hc
  · have : xs.getD j [] = xs[j] := by simp [List.getD, hj]
    simp only [itemA, this]
    exact hv _ (List.getElem_mem _)

theorem whole_good (xs : List Str) (gs : List Int) (hv : ∀ x ∈ xs, validL x = true) (hd : xs.Nodup) : parseL (wholeT xs gs) = (ofL xs, 0, 0) := by
  unfold wholeT bodyT
  by_cases h0 : xs.length = 0
  · rw [if_pos h0, parse_empty (gapL_blank _ _) (gapL_blank _ _) (gapL_blank _ _), List.length_eq_zero_iff.1 h0, ofL_nil]
  · have hn := itemsA_names xs gs (Nat.le_refl xs.length)
    rw [List.take_length] at hn
    rw [if_neg h0, parse_items_good (gapL_blank _ _) (gapL_blank _ _) (itemsA_ne xs gs h0) (items_ok xs gs hv) (by rw [hn]; exact hd), hn]

theorem whole_dup (xs : List Str) (gs : List Int) (hv : ∀ x ∈ xs, validL x = true) {j : Nat} (hj : j < xs.length) (hd : (xs.take j).Nodup) (hm : xs[j] ∈ xs.take j) : parseL (wholeT xs gs) = ([], (placeT xs gs j : Int), 3) := by
  have hj0 : j ≠ 0 := by rintro rfl; simp at hm
  have h0 : xs.length ≠ 0 := by omega
  unfold wholeT placeT bodyT commaT
  rw [if_neg h0, if_neg hj0, if_neg hj0, parse_items (gapL_blank _ _) (gapL_blank _ _) (itemsA_ne xs gs h0) (items_ok xs gs hv)]
  obtain ⟨r, hr⟩ := itemsA_at xs gs hj
  have hn := itemsA_names xs gs (show j ≤ xs.length by omega)
  have hx : xs.getD j [] = xs[j] := by simp [List.getD, hj]
  have hsp := spacedF_dup (itemsA xs gs j) ((gapL gs 0).length + 1) [] (itemA xs gs j).1 (itemA xs gs j).2.1 (itemA xs gs j).2.2 r (itemsA_ne xs gs hj0) (by rw [hn]; simpa using hd) (by rw [hn]; show xs.getD j [] ∈ [] ++ xs.take j; rw [hx]; simpa using hm)
  rw [← hr] at hsp
  unfold finish
  rw [hsp]
  simp [itemA, hj0]
  omega

def TwiceAt (xs : List Str) (gs : List Int) (k : Nat) (tw : Int) : Prop :=
  ((xs.take k).Nodup ∧ tw = -1) ∨ ∃ j, ∃ h : j < xs.length, j < k ∧ (xs.take j).Nodup ∧ xs[j] ∈ xs.take j ∧ tw = (placeT xs gs j : Int)

theorem twice_new {xs : List Str} {gs : List Int} {k : Nat} (h : k < xs.length) (hd : (xs.take k).Nodup) (hm : xs[k] ∉ xs.take k) : TwiceAt xs gs (k + 1) (-1) := by
  left
  rw [List.take_succ_eq_append_getElem h]
  refine ⟨?_, rfl⟩
  rw [List.nodup_append]
  exact ⟨hd, by simp, fun a ha b hb e => by simp at hb; subst hb; subst e; exact hm ha⟩
theorem twice_dup {xs : List Str} {gs : List Int} {k : Nat} (h : k < xs.length) (hd : (xs.take k).Nodup) (hm : xs[k] ∈ xs.take k) : TwiceAt xs gs (k + 1) (placeT xs gs k : Int) :=
  .inr ⟨k, h, by omega, hd, hm, rfl⟩
theorem twice_old {xs : List Str} {gs : List Int} {k : Nat} {tw : Int} (h : ∃ j, ∃ h : j < xs.length, j < k ∧ (xs.take j).Nodup ∧ xs[j] ∈ xs.take j ∧ tw = (placeT xs gs j : Int)) : TwiceAt xs gs (k + 1) tw := by
  obtain ⟨j, h1, h2, h3, h4, h5⟩ := h
  exact .inr ⟨j, h1, by omega, h3, h4, h5⟩

theorem reads_of_ints {w : World} {a : Addr} {len cap : Nat} {zs : List Int} (hlc : len ≤ cap) (hm : cap ≤ maxLen) (hl : len ≤ zs.length)
    (hspot : 0 < len → a.spot = none) (hb : 0 < len → a.block < w.heap.size)
    (hc : ∀ i, i < zs.length → w.cell? (a.add i) = some (.int .u8 (zs.getD i 0))) : Reads vn w (.slice (some a) len cap) (zs.take len) := by
  have hle : (zs.take len).length = len := by simp; omega
  refine ⟨some a, cap, by rw [hle], by rw [hle]; exact hlc, hm, fun h => by simp at h, fun hne => ?_⟩
  have h0 : 0 < len := by rw [← hle]; exact List.length_pos_iff.2 hne
  obtain ⟨b, o, sp⟩ := a
  have := hspot h0
  simp only at this
  subst this
  refine ⟨b, o, rfl, hb h0, fun j hj => ?_⟩
  rw [hle] at hj
  have := hc j (by omega)
  rw [show Addr.add ⟨b, o, none⟩ j = (⟨b, o + j, none⟩ : Addr) by by_cases h0 : j = 0 <;> simp [Addr.add, h0]] at this
  rw [this]
  simp [List.getD, show j < zs.length by omega, vn]

set_option maxRecDepth 100000 in
/-- A []uint8 that came in. -/
theorem open_bytes {H : Type} {enc : TypeId × Value → H} {W : World} {base : Nat} {v : Value} {d : DataW H} {p : List MemPlace} (hok : Value.okWide Try.prog W .any base 33 v) (h : DataW.Trod enc Try.prog W 0 (fun _ => true) true 33 v d p) :
    ∃ gs : List Int, Reads vn W v gs ∧ ∀ c ∈ gs, 0 ≤ c ∧ c < 256 := by
  obtain ⟨a0, len, cap, rfl⟩ := okWide_slice Try.underlying33 hok
  obtain ⟨fuel, hf⟩ := h
  rcases open_ints Try.underlying33 Try.underlying5 (by kernel_rfl) hf with ⟨hcs, hx⟩ | ⟨a, len', cap', ss, hcs, _, hl, hm, hz, hx, hcell, hsz⟩
  · simp only [Value.cells] at hcs
    simp at hcs
    obtain ⟨rfl, rfl, rfl⟩ := hcs
    exact ⟨[], Reads.nil W, by simp⟩
  · simp only [Value.cells] at hcs
    simp at hcs
    obtain ⟨rfl, rfl, rfl⟩ := hcs
    simp only [if_true] at hz
    have hin : 0 < len → a.spot = none ∧ a.block < W.heap.size := by
      intro h0
      have h1 := hcell 0 (by omega)
      have h2 : Addr.add a 0 = a := by simp [Addr.add]
      rw [h2] at h1
      refine ⟨?_, World.block_lt_of_cell? W a h1⟩
      unfold World.cell? at h1
      split at h1
      · by_cases hs : a.spot.isSome = true
        · simp [hs] at h1
        · simpa using hs
      · cases h1
    refine ⟨_, reads_of_ints hl hm (by omega) (fun h => (hin h).1) (fun h => (hin h).2) hcell, ?_⟩
    intro x hx
    have := hsz x (List.mem_of_mem_take hx)
    rw [Lit.wf_int_iff] at this
    have h0 : IntKind.u8.min = 0 := by decide
    have h1 : IntKind.u8.max = 255 := by decide
    omega
end Go.Proofs.Ytgolodpihmdmoaa
