/-
  Chapter 28: messages and acts that came in, opened, within a bulk of 1048576.
-/
import Derived.Test.YtmcdmcnbnnfhnaaVk
import Derived.Test.YtmcdmcnbnnfhnaaVa
import Derived.Test.YtmcdmcnbnnfhnaaRows
import Derived.JoinedCond
namespace Go.Proofs.Ytmcdmcnbnnfhnaa
open Go.ChangeShapes Go.WideShapes Go.ChangeAt Go.RowKit

set_option maxRecDepth 100000
theorem bulk_one {H : Type} (d : DataW H) : 1 ≤ Rows.uptoBulk d := by
  cases d with
  | lit l => cases l <;> simp [Rows.uptoBulk]
  | nil => simp [Rows.uptoBulk]
  | ptr d => simp [Rows.uptoBulk]
  | slice elems spare => simp [Rows.uptoBulk]
  | agg parts => simp [Rows.uptoBulk]
  | iface t d => simp [Rows.uptoBulk]
  | map entries => simp [Rows.uptoBulk]
  | held h => simp [Rows.uptoBulk]
theorem bulk_all {H : Type} (l : List (DataW H)) : l.length ≤ Rows.uptoBulkAll l := by
  induction l with
  | nil => simp [Rows.uptoBulkAll]
  | cons x r ih => have := bulk_one x; simp only [Rows.uptoBulkAll, List.length_cons]; omega
theorem bulk_mem {H : Type} {d : DataW H} {l : List (DataW H)} (h : d ∈ l) : Rows.uptoBulk d ≤ Rows.uptoBulkAll l := by
  induction l with
  | nil => cases h
  | cons x r ih =>
    simp only [Rows.uptoBulkAll]
    rcases List.mem_cons.1 h with rfl | h
    · omega
    · have := ih h; omega
section
variable {H : Type} {enc : TypeId × Value → H} {W : World}
/-- A slice within the bulk. -/
theorem open_lb {α : Type} {f : α → List DV} {K : Nat} {t e : TypeId} (ht : Try.prog.underlying t = some (.slice e)) (hC : Try.prog.cellsOf e = K) (hK : 0 < K) {n : Nat} {v : Value} {y : DataW H × List MemPlace}
    (h : DataW.trod enc Try.prog W 0 (fun _ => true) true n t [v] = some y) (hf : W.noneFrozen y.2) (hb : Rows.uptoBulk y.1 ≤ 1048576)
    (hopen : ∀ m cs y, DataW.trod enc Try.prog W 0 (fun _ => true) true m e cs = some y → cs.length = K → W.noneFrozen y.2 → Rows.uptoBulk y.1 ≤ 1048576 → ∃ x, CellsD (fun _ => True) W cs (f x)) : ∃ l : List α, ReadsD (fun _ => True) W v (.ls K (l.map f)) := by
  obtain ⟨s, l, c, _, _, _, h1, h2⟩ := open_ls (f := f) ht hC hK h hf fun m cs d ps hd hl hfr ⟨es, sp, he, hm⟩ => hopen m cs (d, ps) hd hl hfr (by
    have h3 := bulk_mem hm
    rw [he] at hb
    simp only [Rows.uptoBulk] at hb
    exact Nat.le_trans h3 (by omega))
  refine ⟨l, h1 ?_⟩
  rcases h2 with h2 | ⟨es, sp, he, hl⟩
  · omega
  · rw [he] at hb
    simp only [Rows.uptoBulk] at hb
    have := bulk_all es
    omega
theorem trod_i {n : Nat} {v : Value} {y : DataW H × List MemPlace} (h : DataW.trod enc Try.prog W 0 (fun _ => true) true n 3 [v] = some y) : ∃ a, v = .int .i64 a ∧ I64 a := by
  obtain ⟨a, e, _, hw⟩ := DataW.trod_int Try.underlying3 h
  injection e with e _
  rw [Lit.wf_int_iff] at hw
  have h0 : IntKind.i64.min = -9223372036854775808 := by decide
  have h1 : IntKind.i64.max = 9223372036854775807 := by decide
  exact ⟨a, e, by unfold I64; omega⟩
theorem trod_s {n : Nat} {v : Value} {y : DataW H × List MemPlace} (h : DataW.trod enc Try.prog W 0 (fun _ => true) true n 9 [v] = some y) : ∃ s : Str, v = vs s := by
  obtain ⟨s, e, _⟩ := DataW.trod_string Try.underlying9 h
  injection e with e _
  exact ⟨s.data.toList, e⟩
theorem trod_b {n : Nat} {v : Value} {y : DataW H × List MemPlace} (h : DataW.trod enc Try.prog W 0 (fun _ => true) true n 4 [v] = some y) : ∃ s : Bool, v = .bool s := by
  obtain ⟨s, e, _⟩ := DataW.trod_bool Try.underlying4 h
  injection e with e _
  exact ⟨s, e⟩
theorem trod_by {n : Nat} {v : Value} {y : DataW H × List MemPlace} (h : DataW.trod enc Try.prog W 0 (fun _ => true) true n 22 [v] = some y) (hf : W.noneFrozen y.2) (hb : Rows.uptoBulk y.1 ≤ 1048576) : ∃ l : Str, ReadsD (fun _ => True) W v (bytesD l) :=
  open_lb (f := fun c => [DV.val (v8 c)]) Try.underlying22 (by kernel_rfl) (by omega) h hf hb fun m cs y hd _ _ _ => by
    obtain ⟨c, rfl⟩ := trod_v8 hd
    exact ⟨c, .mk (.val _ rfl) .empty⟩
theorem trod_round {n : Nat} {c0 c1 c2 : Value} {y : DataW H × List MemPlace} (h : DataW.trod enc Try.prog W 0 (fun _ => true) true n 29 [c0, c1, c2] = some y) : ∃ a b c, c0 = .int .i64 a ∧ c1 = .int .i64 b ∧ c2 = .int .i64 c := by
  obtain ⟨xs, m, _, hy, _, hlen, hg⟩ := DataW.trod_struct Try.underlying29 h
  match xs, hlen with
  | [y0, y1, y2], _ =>
    have h0 : DataW.trod enc Try.prog W 0 (fun _ => true) true m 3 [c0] = some y0 := hg 0 _ rfl
    have h1 : DataW.trod enc Try.prog W 0 (fun _ => true) true m 3 [c1] = some y1 := hg 1 _ rfl
    have h2 : DataW.trod enc Try.prog W 0 (fun _ => true) true m 3 [c2] = some y2 := hg 2 _ rfl
    obtain ⟨a, e0, _⟩ := trod_i h0
    obtain ⟨b, e1, _⟩ := trod_i h1
    obtain ⟨c, e2, _⟩ := trod_i h2
    exact ⟨a, b, c, e0, e1, e2⟩
theorem cells_snoc' {P : Nat → Prop} {w : World} {cs : List Value} {ds : List DV} {v : Value} {d : DV} (h : CellsD P w cs ds) (hv : ReadsD P w v d) : CellsD P w (cs ++ [v]) (ds ++ [d]) := by
  induction ds generalizing cs with
  | nil => rw [h.nil]; exact .mk hv .empty
  | cons e ds ih => obtain ⟨u, cs', rfl, h1, h2⟩ := h.cons; exact .mk h1 (ih h2)
theorem trod_rid {n : Nat} {cs : List Value} {y : DataW H × List MemPlace} (h : DataW.trod enc Try.prog W 0 (fun _ => true) true n 83 cs = some y) (hl : cs.length = 3) (hf : W.noneFrozen y.2) (hb : Rows.uptoBulk y.1 ≤ 1048576) : ∃ x : RidM, CellsD (fun _ => True) W cs (ridD x) := by
  match cs, hl with
  | [c0, c1, c2], _ =>
    obtain ⟨xs, m, _, hy, _, hlen, hg⟩ := DataW.trod_struct Try.underlying83 h
    match xs, hlen with
    | [y0, y1, y2], _ =>
      subst hy
      simp only [List.map_cons, List.map_nil, Rows.uptoBulk, Rows.uptoBulkAll] at hb
      have h0 : DataW.trod enc Try.prog W 0 (fun _ => true) true m 3 [c0] = some y0 := hg 0 _ rfl
      have h1 : DataW.trod enc Try.prog W 0 (fun _ => true) true m 3 [c1] = some y1 := hg 1 _ rfl
      have h2 : DataW.trod enc Try.prog W 0 (fun _ => true) true m 22 [c2] = some y2 := hg 2 _ rfl
      have f2 : W.noneFrozen y2.2 := fun b o hm => hf b o (by simp only [List.flatMap_cons, List.flatMap_nil, List.mem_append]; exact .inr (.inr (.inl hm)))
      have b2 : Rows.uptoBulk y2.1 ≤ 1048576 := by omega
      obtain ⟨a0, rfl, i0⟩ := trod_i h0
      obtain ⟨a1, rfl, i1⟩ := trod_i h1
      obtain ⟨a2, r2⟩ := trod_by h2 f2 b2
      exact ⟨⟨a0, a1, a2⟩, (.mk (readsD_i _ _ _) (.mk (readsD_i _ _ _) (.mk r2 .empty)))⟩
theorem ls_rid {n : Nat} {v : Value} {y : DataW H × List MemPlace} (h : DataW.trod enc Try.prog W 0 (fun _ => true) true n 30 [v] = some y) (hf : W.noneFrozen y.2) (hb : Rows.uptoBulk y.1 ≤ 1048576) : ∃ l : List RidM, ReadsD (fun _ => True) W v (ridsD l) :=
  open_lb (f := ridD) Try.underlying30 (by kernel_rfl) (by omega) h hf hb fun m cs y hd hl hfr hbb => trod_rid hd hl hfr hbb
theorem trod_wr {n : Nat} {cs : List Value} {y : DataW H × List MemPlace} (h : DataW.trod enc Try.prog W 0 (fun _ => true) true n 78 cs = some y) (hl : cs.length = 2) (hf : W.noneFrozen y.2) (hb : Rows.uptoBulk y.1 ≤ 1048576) : ∃ x : WrM, CellsD (fun _ => True) W cs (wrD x) := by
  match cs, hl with
  | [c0, c1], _ =>
    obtain ⟨xs, m, _, hy, _, hlen, hg⟩ := DataW.trod_struct Try.underlying78 h
    match xs, hlen with
    | [y0, y1], _ =>
      subst hy
      simp only [List.map_cons, List.map_nil, Rows.uptoBulk, Rows.uptoBulkAll] at hb
      have h0 : DataW.trod enc Try.prog W 0 (fun _ => true) true m 9 [c0] = some y0 := hg 0 _ rfl
      have h1 : DataW.trod enc Try.prog W 0 (fun _ => true) true m 22 [c1] = some y1 := hg 1 _ rfl
      have f1 : W.noneFrozen y1.2 := fun b o hm => hf b o (by simp only [List.flatMap_cons, List.flatMap_nil, List.mem_append]; exact .inr (.inl hm))
      have b1 : Rows.uptoBulk y1.1 ≤ 1048576 := by omega
      obtain ⟨a0, rfl⟩ := trod_s h0
      obtain ⟨a1, r1⟩ := trod_by h1 f1 b1
      exact ⟨⟨a0, a1⟩, (.mk (readsD_s _ _ _) (.mk r1 .empty))⟩
theorem ls_wr {n : Nat} {v : Value} {y : DataW H × List MemPlace} (h : DataW.trod enc Try.prog W 0 (fun _ => true) true n 79 [v] = some y) (hf : W.noneFrozen y.2) (hb : Rows.uptoBulk y.1 ≤ 1048576) : ∃ l : List WrM, ReadsD (fun _ => True) W v (wrsD l) :=
  open_lb (f := wrD) Try.underlying79 (by kernel_rfl) (by omega) h hf hb fun m cs y hd hl hfr hbb => trod_wr hd hl hfr hbb
theorem trod_cmd {n : Nat} {cs : List Value} {y : DataW H × List MemPlace} (h : DataW.trod enc Try.prog W 0 (fun _ => true) true n 81 cs = some y) (hl : cs.length = 6) (hf : W.noneFrozen y.2) (hb : Rows.uptoBulk y.1 ≤ 1048576) : ∃ x : CmdM, CellsD (fun _ => True) W cs (cmdD x) := by
  match cs, hl with
  | [c0, c1, c2, c3, c4, c5], _ =>
    obtain ⟨xs, m, _, hy, _, hlen, hg⟩ := DataW.trod_struct Try.underlying81 h
    match xs, hlen with
    | [y0, y1, y2, y3, y4, y5], _ =>
      subst hy
      simp only [List.map_cons, List.map_nil, Rows.uptoBulk, Rows.uptoBulkAll] at hb
      have h0 : DataW.trod enc Try.prog W 0 (fun _ => true) true m 3 [c0] = some y0 := hg 0 _ rfl
      have h1 : DataW.trod enc Try.prog W 0 (fun _ => true) true m 3 [c1] = some y1 := hg 1 _ rfl
      have h2 : DataW.trod enc Try.prog W 0 (fun _ => true) true m 3 [c2] = some y2 := hg 2 _ rfl
      have h3 : DataW.trod enc Try.prog W 0 (fun _ => true) true m 79 [c3] = some y3 := hg 3 _ rfl
      have f3 : W.noneFrozen y3.2 := fun b o hm => hf b o (by simp only [List.flatMap_cons, List.flatMap_nil, List.mem_append]; exact .inr (.inr (.inr (.inl hm))))
      have b3 : Rows.uptoBulk y3.1 ≤ 1048576 := by omega
      have h4 : DataW.trod enc Try.prog W 0 (fun _ => true) true m 3 [c4] = some y4 := hg 4 _ rfl
      have h5 : DataW.trod enc Try.prog W 0 (fun _ => true) true m 22 [c5] = some y5 := hg 5 _ rfl
      have f5 : W.noneFrozen y5.2 := fun b o hm => hf b o (by simp only [List.flatMap_cons, List.flatMap_nil, List.mem_append]; exact .inr (.inr (.inr (.inr (.inr (.inl hm))))))
      have b5 : Rows.uptoBulk y5.1 ≤ 1048576 := by omega
      obtain ⟨a0, rfl, i0⟩ := trod_i h0
      obtain ⟨a1, rfl, i1⟩ := trod_i h1
      obtain ⟨a2, rfl, i2⟩ := trod_i h2
      obtain ⟨a3, r3⟩ := ls_wr h3 f3 b3
      obtain ⟨a4, rfl, i4⟩ := trod_i h4
      obtain ⟨a5, r5⟩ := trod_by h5 f5 b5
      exact ⟨⟨a0, a1, a2, a3, a4, a5⟩, (.mk (readsD_i _ _ _) (.mk (readsD_i _ _ _) (.mk (readsD_i _ _ _) (.mk r3 (.mk (readsD_i _ _ _) (.mk r5 .empty))))))⟩
theorem ls_cmd {n : Nat} {v : Value} {y : DataW H × List MemPlace} (h : DataW.trod enc Try.prog W 0 (fun _ => true) true n 32 [v] = some y) (hf : W.noneFrozen y.2) (hb : Rows.uptoBulk y.1 ≤ 1048576) : ∃ l : List CmdM, ReadsD (fun _ => True) W v (cmdsD l) :=
  open_lb (f := cmdD) Try.underlying32 (by kernel_rfl) (by omega) h hf hb fun m cs y hd hl hfr hbb => trod_cmd hd hl hfr hbb
theorem trod_ack {n : Nat} {cs : List Value} {y : DataW H × List MemPlace} (h : DataW.trod enc Try.prog W 0 (fun _ => true) true n 87 cs = some y) (hl : cs.length = 2) (hf : W.noneFrozen y.2) (hb : Rows.uptoBulk y.1 ≤ 1048576) : ∃ x : AckM, CellsD (fun _ => True) W cs (ackD x) := by
  match cs, hl with
  | [c0, c1], _ =>
    obtain ⟨xs, m, _, hy, _, hlen, hg⟩ := DataW.trod_struct Try.underlying87 h
    match xs, hlen with
    | [y0, y1], _ =>
      subst hy
      simp only [List.map_cons, List.map_nil, Rows.uptoBulk, Rows.uptoBulkAll] at hb
      have h0 : DataW.trod enc Try.prog W 0 (fun _ => true) true m 3 [c0] = some y0 := hg 0 _ rfl
      have h1 : DataW.trod enc Try.prog W 0 (fun _ => true) true m 22 [c1] = some y1 := hg 1 _ rfl
      have f1 : W.noneFrozen y1.2 := fun b o hm => hf b o (by simp only [List.flatMap_cons, List.flatMap_nil, List.mem_append]; exact .inr (.inl hm))
      have b1 : Rows.uptoBulk y1.1 ≤ 1048576 := by omega
      obtain ⟨a0, rfl, i0⟩ := trod_i h0
      obtain ⟨a1, r1⟩ := trod_by h1 f1 b1
      exact ⟨⟨a0, a1⟩, (.mk (readsD_i _ _ _) (.mk r1 .empty))⟩
theorem ls_ack {n : Nat} {v : Value} {y : DataW H × List MemPlace} (h : DataW.trod enc Try.prog W 0 (fun _ => true) true n 33 [v] = some y) (hf : W.noneFrozen y.2) (hb : Rows.uptoBulk y.1 ≤ 1048576) : ∃ l : List AckM, ReadsD (fun _ => True) W v (acksD l) :=
  open_lb (f := ackD) Try.underlying33 (by kernel_rfl) (by omega) h hf hb fun m cs y hd hl hfr hbb => trod_ack hd hl hfr hbb
def claimD2 (x : ClaimM) : List DV := [iD x.r1, iD x.r2, iD x.r3, ridsD x.reads, cmdsD x.base, cmdsD x.conf, iD x.count, bytesD x.root]
theorem trod_claim {n : Nat} {cs : List Value} {y : DataW H × List MemPlace} (h : DataW.trod enc Try.prog W 0 (fun _ => true) true n 85 cs = some y) (hl : cs.length = 8) (hf : W.noneFrozen y.2) (hb : Rows.uptoBulk y.1 ≤ 1048576) : ∃ x : ClaimM, CellsD (fun _ => True) W cs (claimD2 x) := by
  match cs, hl with
  | [c0, c1, c2, c3, c4, c5, c6, c7], _ =>
    obtain ⟨xs, m, _, hy, _, hlen, hg⟩ := DataW.trod_struct Try.underlying85 h
    match xs, hlen with
    | [y0, y1, y2, y3, y4, y5], _ =>
      subst hy
      simp only [List.map_cons, List.map_nil, Rows.uptoBulk, Rows.uptoBulkAll] at hb
      have h0 : DataW.trod enc Try.prog W 0 (fun _ => true) true m 29 [c0, c1, c2] = some y0 := hg 0 _ rfl
      have h1 : DataW.trod enc Try.prog W 0 (fun _ => true) true m 30 [c3] = some y1 := hg 1 _ rfl
      have f1 : W.noneFrozen y1.2 := fun b o hm => hf b o (by simp only [List.flatMap_cons, List.flatMap_nil, List.mem_append]; exact .inr (.inl hm))
      have b1 : Rows.uptoBulk y1.1 ≤ 1048576 := by omega
      have h2 : DataW.trod enc Try.prog W 0 (fun _ => true) true m 32 [c4] = some y2 := hg 2 _ rfl
      have f2 : W.noneFrozen y2.2 := fun b o hm => hf b o (by simp only [List.flatMap_cons, List.flatMap_nil, List.mem_append]; exact .inr (.inr (.inl hm)))
      have b2 : Rows.uptoBulk y2.1 ≤ 1048576 := by omega
      have h3 : DataW.trod enc Try.prog W 0 (fun _ => true) true m 32 [c5] = some y3 := hg 3 _ rfl
      have f3 : W.noneFrozen y3.2 := fun b o hm => hf b o (by simp only [List.flatMap_cons, List.flatMap_nil, List.mem_append]; exact .inr (.inr (.inr (.inl hm))))
      have b3 : Rows.uptoBulk y3.1 ≤ 1048576 := by omega
      have h4 : DataW.trod enc Try.prog W 0 (fun _ => true) true m 3 [c6] = some y4 := hg 4 _ rfl
      have h5 : DataW.trod enc Try.prog W 0 (fun _ => true) true m 22 [c7] = some y5 := hg 5 _ rfl
      have f5 : W.noneFrozen y5.2 := fun b o hm => hf b o (by simp only [List.flatMap_cons, List.flatMap_nil, List.mem_append]; exact .inr (.inr (.inr (.inr (.inr (.inl hm))))))
      have b5 : Rows.uptoBulk y5.1 ≤ 1048576 := by omega
      obtain ⟨p0, q0, s0, rfl, rfl, rfl⟩ := trod_round h0
      obtain ⟨a1, r1⟩ := ls_rid h1 f1 b1
      obtain ⟨a2, r2⟩ := ls_cmd h2 f2 b2
      obtain ⟨a3, r3⟩ := ls_cmd h3 f3 b3
      obtain ⟨a4, rfl, i4⟩ := trod_i h4
      obtain ⟨a5, r5⟩ := trod_by h5 f5 b5
      exact ⟨⟨p0, q0, s0, a1, a2, a3, a4, a5⟩, (.mk (readsD_i _ _ _) (.mk (readsD_i _ _ _) (.mk (readsD_i _ _ _) (.mk r1 (.mk r2 (.mk r3 (.mk (readsD_i _ _ _) (.mk r5 .empty))))))))⟩
theorem trod_cert {n : Nat} {cs : List Value} {y : DataW H × List MemPlace} (h : DataW.trod enc Try.prog W 0 (fun _ => true) true n 89 cs = some y) (hl : cs.length = 9) (hf : W.noneFrozen y.2) (hb : Rows.uptoBulk y.1 ≤ 1048576) : ∃ x : CertM, CellsD (fun _ => True) W cs (certD x) := by
  match cs, hl with
  | [c0, c1, c2, c3, c4, c5, c6, c7, c8], _ =>
    obtain ⟨xs, m, _, hy, _, hlen, hg⟩ := DataW.trod_struct Try.underlying89 h
    match xs, hlen with
    | [y0, y1], _ =>
      subst hy
      simp only [List.map_cons, List.map_nil, Rows.uptoBulk, Rows.uptoBulkAll] at hb
      have h0 : DataW.trod enc Try.prog W 0 (fun _ => true) true m 85 [c0, c1, c2, c3, c4, c5, c6, c7] = some y0 := hg 0 _ rfl
      have f0 : W.noneFrozen y0.2 := fun b o hm => hf b o (by simp only [List.flatMap_cons, List.flatMap_nil, List.mem_append]; exact .inl hm)
      have b0 : Rows.uptoBulk y0.1 ≤ 1048576 := by omega
      have h1 : DataW.trod enc Try.prog W 0 (fun _ => true) true m 33 [c8] = some y1 := hg 1 _ rfl
      have f1 : W.noneFrozen y1.2 := fun b o hm => hf b o (by simp only [List.flatMap_cons, List.flatMap_nil, List.mem_append]; exact .inr (.inl hm))
      have b1 : Rows.uptoBulk y1.1 ≤ 1048576 := by omega
      obtain ⟨a0, r0⟩ := trod_claim h0 rfl f0 b0
      obtain ⟨a1, r1⟩ := ls_ack h1 f1 b1
      exact ⟨⟨a0, a1⟩, (cells_snoc' r0 r1)⟩
theorem ls_cert {n : Nat} {v : Value} {y : DataW H × List MemPlace} (h : DataW.trod enc Try.prog W 0 (fun _ => true) true n 90 [v] = some y) (hf : W.noneFrozen y.2) (hb : Rows.uptoBulk y.1 ≤ 1048576) : ∃ l : List CertM, ReadsD (fun _ => True) W v (certsD l) :=
  open_lb (f := certD) Try.underlying90 (by kernel_rfl) (by omega) h hf hb fun m cs y hd hl hfr hbb => trod_cert hd hl hfr hbb
theorem trod_base {n : Nat} {cs : List Value} {y : DataW H × List MemPlace} (h : DataW.trod enc Try.prog W 0 (fun _ => true) true n 106 cs = some y) (hl : cs.length = 2) (hf : W.noneFrozen y.2) (hb : Rows.uptoBulk y.1 ≤ 1048576) : ∃ x : BaseM, CellsD (fun _ => True) W cs (baseD x) := by
  match cs, hl with
  | [c0, c1], _ =>
    obtain ⟨xs, m, _, hy, _, hlen, hg⟩ := DataW.trod_struct Try.underlying106 h
    match xs, hlen with
    | [y0, y1], _ =>
      subst hy
      simp only [List.map_cons, List.map_nil, Rows.uptoBulk, Rows.uptoBulkAll] at hb
      have h0 : DataW.trod enc Try.prog W 0 (fun _ => true) true m 90 [c0] = some y0 := hg 0 _ rfl
      have f0 : W.noneFrozen y0.2 := fun b o hm => hf b o (by simp only [List.flatMap_cons, List.flatMap_nil, List.mem_append]; exact .inl hm)
      have b0 : Rows.uptoBulk y0.1 ≤ 1048576 := by omega
      have h1 : DataW.trod enc Try.prog W 0 (fun _ => true) true m 32 [c1] = some y1 := hg 1 _ rfl
      have f1 : W.noneFrozen y1.2 := fun b o hm => hf b o (by simp only [List.flatMap_cons, List.flatMap_nil, List.mem_append]; exact .inr (.inl hm))
      have b1 : Rows.uptoBulk y1.1 ≤ 1048576 := by omega
      obtain ⟨a0, r0⟩ := ls_cert h0 f0 b0
      obtain ⟨a1, r1⟩ := ls_cmd h1 f1 b1
      exact ⟨⟨a0, a1⟩, (.mk r0 (.mk r1 .empty))⟩
theorem ls_base {n : Nat} {v : Value} {y : DataW H × List MemPlace} (h : DataW.trod enc Try.prog W 0 (fun _ => true) true n 31 [v] = some y) (hf : W.noneFrozen y.2) (hb : Rows.uptoBulk y.1 ≤ 1048576) : ∃ l : List BaseM, ReadsD (fun _ => True) W v (basesD l) :=
  open_lb (f := baseD) Try.underlying31 (by kernel_rfl) (by omega) h hf hb fun m cs y hd hl hfr hbb => trod_base hd hl hfr hbb
theorem trod_proof {n : Nat} {cs : List Value} {y : DataW H × List MemPlace} (h : DataW.trod enc Try.prog W 0 (fun _ => true) true n 92 cs = some y) (hl : cs.length = 10) (hf : W.noneFrozen y.2) (hb : Rows.uptoBulk y.1 ≤ 1048576) : ∃ x : ProofM, CellsD (fun _ => True) W cs (proofD x) := by
  match cs, hl with
  | [c0, c1, c2, c3, c4, c5, c6, c7, c8, c9], _ =>
    obtain ⟨xs, m, _, hy, _, hlen, hg⟩ := DataW.trod_struct Try.underlying92 h
    match xs, hlen with
    | [y0, y1], _ =>
      subst hy
      simp only [List.map_cons, List.map_nil, Rows.uptoBulk, Rows.uptoBulkAll] at hb
      have h0 : DataW.trod enc Try.prog W 0 (fun _ => true) true m 90 [c0] = some y0 := hg 0 _ rfl
      have f0 : W.noneFrozen y0.2 := fun b o hm => hf b o (by simp only [List.flatMap_cons, List.flatMap_nil, List.mem_append]; exact .inl hm)
      have b0 : Rows.uptoBulk y0.1 ≤ 1048576 := by omega
      have h1 : DataW.trod enc Try.prog W 0 (fun _ => true) true m 89 [c1, c2, c3, c4, c5, c6, c7, c8, c9] = some y1 := hg 1 _ rfl
      have f1 : W.noneFrozen y1.2 := fun b o hm => hf b o (by simp only [List.flatMap_cons, List.flatMap_nil, List.mem_append]; exact .inr (.inl hm))
      have b1 : Rows.uptoBulk y1.1 ≤ 1048576 := by omega
      obtain ⟨a0, r0⟩ := ls_cert h0 f0 b0
      obtain ⟨a1, r1⟩ := trod_cert h1 rfl f1 b1
      exact ⟨⟨a0, a1⟩, (.mk r0 r1)⟩
theorem ls_proof {n : Nat} {v : Value} {y : DataW H × List MemPlace} (h : DataW.trod enc Try.prog W 0 (fun _ => true) true n 34 [v] = some y) (hf : W.noneFrozen y.2) (hb : Rows.uptoBulk y.1 ≤ 1048576) : ∃ l : List ProofM, ReadsD (fun _ => True) W v (proofsD l) :=
  open_lb (f := proofD) Try.underlying34 (by kernel_rfl) (by omega) h hf hb fun m cs y hd hl hfr hbb => trod_proof hd hl hfr hbb
theorem trod_dig {n : Nat} {cs : List Value} {y : DataW H × List MemPlace} (h : DataW.trod enc Try.prog W 0 (fun _ => true) true n 110 cs = some y) (hl : cs.length = 3) (hf : W.noneFrozen y.2) (hb : Rows.uptoBulk y.1 ≤ 1048576) : ∃ x : DigM, CellsD (fun _ => True) W cs (digD x) := by
  match cs, hl with
  | [c0, c1, c2], _ =>
    obtain ⟨xs, m, _, hy, _, hlen, hg⟩ := DataW.trod_struct Try.underlying110 h
    match xs, hlen with
    | [y0, y1, y2], _ =>
      subst hy
      simp only [List.map_cons, List.map_nil, Rows.uptoBulk, Rows.uptoBulkAll] at hb
      have h0 : DataW.trod enc Try.prog W 0 (fun _ => true) true m 22 [c0] = some y0 := hg 0 _ rfl
      have f0 : W.noneFrozen y0.2 := fun b o hm => hf b o (by simp only [List.flatMap_cons, List.flatMap_nil, List.mem_append]; exact .inl hm)
      have b0 : Rows.uptoBulk y0.1 ≤ 1048576 := by omega
      have h1 : DataW.trod enc Try.prog W 0 (fun _ => true) true m 22 [c1] = some y1 := hg 1 _ rfl
      have f1 : W.noneFrozen y1.2 := fun b o hm => hf b o (by simp only [List.flatMap_cons, List.flatMap_nil, List.mem_append]; exact .inr (.inl hm))
      have b1 : Rows.uptoBulk y1.1 ≤ 1048576 := by omega
      have h2 : DataW.trod enc Try.prog W 0 (fun _ => true) true m 3 [c2] = some y2 := hg 2 _ rfl
      obtain ⟨a0, r0⟩ := trod_by h0 f0 b0
      obtain ⟨a1, r1⟩ := trod_by h1 f1 b1
      obtain ⟨a2, rfl, i2⟩ := trod_i h2
      exact ⟨⟨a0, a1, a2⟩, (.mk r0 (.mk r1 (.mk (readsD_i _ _ _) .empty)))⟩
theorem ls_dig {n : Nat} {v : Value} {y : DataW H × List MemPlace} (h : DataW.trod enc Try.prog W 0 (fun _ => true) true n 35 [v] = some y) (hf : W.noneFrozen y.2) (hb : Rows.uptoBulk y.1 ≤ 1048576) : ∃ l : List DigM, ReadsD (fun _ => True) W v (digsD l) :=
  open_lb (f := digD) Try.underlying35 (by kernel_rfl) (by omega) h hf hb fun m cs y hd hl hfr hbb => trod_dig hd hl hfr hbb
theorem ls_path {n : Nat} {v : Value} {y : DataW H × List MemPlace} (h : DataW.trod enc Try.prog W 0 (fun _ => true) true n 93 [v] = some y) (hf : W.noneFrozen y.2) (hb : Rows.uptoBulk y.1 ≤ 1048576) : ∃ l : List Str, ReadsD (fun _ => True) W v (pathD l) :=
  open_lb (f := fun s => [bytesD s]) Try.underlying93 (by kernel_rfl) (by omega) h hf hb fun m cs y hd hl hfr hbb => by
    match cs, hl with
    | [c0], _ =>
      obtain ⟨l, r⟩ := trod_by hd hfr hbb
      exact ⟨l, .mk r .empty⟩
theorem ls_objs {n : Nat} {v : Value} {y : DataW H × List MemPlace} (h : DataW.trod enc Try.prog W 0 (fun _ => true) true n 36 [v] = some y) (hf : W.noneFrozen y.2) (hb : Rows.uptoBulk y.1 ≤ 1048576) : ∃ l : List Str, ReadsD (fun _ => True) W v (objsD l) :=
  open_lb (f := fun s => [sD s]) Try.underlying36 (by kernel_rfl) (by omega) h hf hb fun m cs y hd hl hfr hbb => by
    match cs, hl with
    | [c0], _ =>
      obtain ⟨l, rfl⟩ := trod_s hd
      exact ⟨l, .mk (readsD_s _ _ _) .empty⟩
theorem trod_item {n : Nat} {cs : List Value} {y : DataW H × List MemPlace} (h : DataW.trod enc Try.prog W 0 (fun _ => true) true n 95 cs = some y) (hl : cs.length = 4) (hf : W.noneFrozen y.2) (hb : Rows.uptoBulk y.1 ≤ 1048576) : ∃ x : ItemM, CellsD (fun _ => True) W cs (itemD x) := by
  match cs, hl with
  | [c0, c1, c2, c3], _ =>
    obtain ⟨xs, m, _, hy, _, hlen, hg⟩ := DataW.trod_struct Try.underlying95 h
    match xs, hlen with
    | [y0, y1, y2, y3], _ =>
      subst hy
      simp only [List.map_cons, List.map_nil, Rows.uptoBulk, Rows.uptoBulkAll] at hb
      have h0 : DataW.trod enc Try.prog W 0 (fun _ => true) true m 9 [c0] = some y0 := hg 0 _ rfl
      have h1 : DataW.trod enc Try.prog W 0 (fun _ => true) true m 4 [c1] = some y1 := hg 1 _ rfl
      have h2 : DataW.trod enc Try.prog W 0 (fun _ => true) true m 22 [c2] = some y2 := hg 2 _ rfl
      have f2 : W.noneFrozen y2.2 := fun b o hm => hf b o (by simp only [List.flatMap_cons, List.flatMap_nil, List.mem_append]; exact .inr (.inr (.inl hm)))
      have b2 : Rows.uptoBulk y2.1 ≤ 1048576 := by omega
      have h3 : DataW.trod enc Try.prog W 0 (fun _ => true) true m 93 [c3] = some y3 := hg 3 _ rfl
      have f3 : W.noneFrozen y3.2 := fun b o hm => hf b o (by simp only [List.flatMap_cons, List.flatMap_nil, List.mem_append]; exact .inr (.inr (.inr (.inl hm))))
      have b3 : Rows.uptoBulk y3.1 ≤ 1048576 := by omega
      obtain ⟨a0, rfl⟩ := trod_s h0
      obtain ⟨a1, rfl⟩ := trod_b h1
      obtain ⟨a2, r2⟩ := trod_by h2 f2 b2
      obtain ⟨a3, r3⟩ := ls_path h3 f3 b3
      exact ⟨⟨a0, a1, a2, a3⟩, (.mk (readsD_s _ _ _) (.mk (.val _ rfl) (.mk r2 (.mk r3 .empty))))⟩
theorem ls_item {n : Nat} {v : Value} {y : DataW H × List MemPlace} (h : DataW.trod enc Try.prog W 0 (fun _ => true) true n 37 [v] = some y) (hf : W.noneFrozen y.2) (hb : Rows.uptoBulk y.1 ≤ 1048576) : ∃ l : List ItemM, ReadsD (fun _ => True) W v (itemsD l) :=
  open_lb (f := itemD) Try.underlying37 (by kernel_rfl) (by omega) h hf hb fun m cs y hd hl hfr hbb => trod_item hd hl hfr hbb
theorem trod_msg {n : Nat} {cs : List Value} {y : DataW H × List MemPlace} (h : DataW.trod enc Try.prog W 0 (fun _ => true) true n 39 cs = some y) (hl : cs.length = 15) (hf : W.noneFrozen y.2) (hb : Rows.uptoBulk y.1 ≤ 1048576) : ∃ x : MsgM, CellsD (fun _ => True) W cs (msgD x) := by
  match cs, hl with
  | [c0, c1, c2, c3, c4, c5, c6, c7, c8, c9, c10, c11, c12, c13, c14], _ =>
    obtain ⟨xs, m, _, hy, _, hlen, hg⟩ := DataW.trod_struct Try.underlying39 h
    match xs, hlen with
    | [y0, y1, y2, y3, y4, y5, y6, y7, y8, y9, y10, y11, y12], _ =>
      subst hy
      simp only [List.map_cons, List.map_nil, Rows.uptoBulk, Rows.uptoBulkAll] at hb
      have h0 : DataW.trod enc Try.prog W 0 (fun _ => true) true m 3 [c0] = some y0 := hg 0 _ rfl
      have h1 : DataW.trod enc Try.prog W 0 (fun _ => true) true m 3 [c1] = some y1 := hg 1 _ rfl
      have h2 : DataW.trod enc Try.prog W 0 (fun _ => true) true m 3 [c2] = some y2 := hg 2 _ rfl
      have h3 : DataW.trod enc Try.prog W 0 (fun _ => true) true m 29 [c3, c4, c5] = some y3 := hg 3 _ rfl
      have h4 : DataW.trod enc Try.prog W 0 (fun _ => true) true m 30 [c6] = some y4 := hg 4 _ rfl
      have f4 : W.noneFrozen y4.2 := fun b o hm => hf b o (by simp only [List.flatMap_cons, List.flatMap_nil, List.mem_append]; exact .inr (.inr (.inr (.inr (.inl hm)))))
      have b4 : Rows.uptoBulk y4.1 ≤ 1048576 := by omega
      have h5 : DataW.trod enc Try.prog W 0 (fun _ => true) true m 31 [c7] = some y5 := hg 5 _ rfl
      have f5 : W.noneFrozen y5.2 := fun b o hm => hf b o (by simp only [List.flatMap_cons, List.flatMap_nil, List.mem_append]; exact .inr (.inr (.inr (.inr (.inr (.inl hm))))))
      have b5 : Rows.uptoBulk y5.1 ≤ 1048576 := by omega
      have h6 : DataW.trod enc Try.prog W 0 (fun _ => true) true m 32 [c8] = some y6 := hg 6 _ rfl
      have f6 : W.noneFrozen y6.2 := fun b o hm => hf b o (by simp only [List.flatMap_cons, List.flatMap_nil, List.mem_append]; exact .inr (.inr (.inr (.inr (.inr (.inr (.inl hm)))))))
      have b6 : Rows.uptoBulk y6.1 ≤ 1048576 := by omega
      have h7 : DataW.trod enc Try.prog W 0 (fun _ => true) true m 33 [c9] = some y7 := hg 7 _ rfl
      have f7 : W.noneFrozen y7.2 := fun b o hm => hf b o (by simp only [List.flatMap_cons, List.flatMap_nil, List.mem_append]; exact .inr (.inr (.inr (.inr (.inr (.inr (.inr (.inl hm))))))))
      have b7 : Rows.uptoBulk y7.1 ≤ 1048576 := by omega
      have h8 : DataW.trod enc Try.prog W 0 (fun _ => true) true m 34 [c10] = some y8 := hg 8 _ rfl
      have f8 : W.noneFrozen y8.2 := fun b o hm => hf b o (by simp only [List.flatMap_cons, List.flatMap_nil, List.mem_append]; exact .inr (.inr (.inr (.inr (.inr (.inr (.inr (.inr (.inl hm)))))))))
      have b8 : Rows.uptoBulk y8.1 ≤ 1048576 := by omega
      have h9 : DataW.trod enc Try.prog W 0 (fun _ => true) true m 35 [c11] = some y9 := hg 9 _ rfl
      have f9 : W.noneFrozen y9.2 := fun b o hm => hf b o (by simp only [List.flatMap_cons, List.flatMap_nil, List.mem_append]; exact .inr (.inr (.inr (.inr (.inr (.inr (.inr (.inr (.inr (.inl hm))))))))))
      have b9 : Rows.uptoBulk y9.1 ≤ 1048576 := by omega
      have h10 : DataW.trod enc Try.prog W 0 (fun _ => true) true m 36 [c12] = some y10 := hg 10 _ rfl
      have f10 : W.noneFrozen y10.2 := fun b o hm => hf b o (by simp only [List.flatMap_cons, List.flatMap_nil, List.mem_append]; exact .inr (.inr (.inr (.inr (.inr (.inr (.inr (.inr (.inr (.inr (.inl hm)))))))))))
      have b10 : Rows.uptoBulk y10.1 ≤ 1048576 := by omega
      have h11 : DataW.trod enc Try.prog W 0 (fun _ => true) true m 3 [c13] = some y11 := hg 11 _ rfl
      have h12 : DataW.trod enc Try.prog W 0 (fun _ => true) true m 37 [c14] = some y12 := hg 12 _ rfl
      have f12 : W.noneFrozen y12.2 := fun b o hm => hf b o (by simp only [List.flatMap_cons, List.flatMap_nil, List.mem_append]; exact .inr (.inr (.inr (.inr (.inr (.inr (.inr (.inr (.inr (.inr (.inr (.inr (.inl hm)))))))))))))
      have b12 : Rows.uptoBulk y12.1 ≤ 1048576 := by omega
      obtain ⟨a0, rfl, i0⟩ := trod_i h0
      obtain ⟨a1, rfl, i1⟩ := trod_i h1
      obtain ⟨a2, rfl, i2⟩ := trod_i h2
      obtain ⟨p3, q3, s3, rfl, rfl, rfl⟩ := trod_round h3
      obtain ⟨a4, r4⟩ := ls_rid h4 f4 b4
      obtain ⟨a5, r5⟩ := ls_base h5 f5 b5
      obtain ⟨a6, r6⟩ := ls_cmd h6 f6 b6
      obtain ⟨a7, r7⟩ := ls_ack h7 f7 b7
      obtain ⟨a8, r8⟩ := ls_proof h8 f8 b8
      obtain ⟨a9, r9⟩ := ls_dig h9 f9 b9
      obtain ⟨a10, r10⟩ := ls_objs h10 f10 b10
      obtain ⟨a11, rfl, i11⟩ := trod_i h11
      obtain ⟨a12, r12⟩ := ls_item h12 f12 b12
      exact ⟨⟨a0, a1, a2, p3, q3, s3, a4, a5, a6, a7, a8, a9, a10, a11, a12⟩, (.mk (readsD_i _ _ _) (.mk (readsD_i _ _ _) (.mk (readsD_i _ _ _) (.mk (readsD_i _ _ _) (.mk (readsD_i _ _ _) (.mk (readsD_i _ _ _) (.mk r4 (.mk r5 (.mk r6 (.mk r7 (.mk r8 (.mk r9 (.mk r10 (.mk (readsD_i _ _ _) (.mk r12 .empty)))))))))))))))⟩
end
/-- A number of Go's int. -/
structure GI where
  n : Int
  h : I64 n
def rowD (g : List GI) : DV := .ls 1 (g.map fun x => [iD x.n])
def groupsD (gs : List (List GI)) : DV := .ls 1 (gs.map fun g => [rowD g])
/-- A call of the laws. -/
structure ActM where
  kind : Int
  a : GI
  b : GI
  m : MsgM
  gs : List (List GI)
def actD (x : ActM) : List DV := [iD x.kind, iD x.a.n, iD x.b.n] ++ (msgD x.m ++ [groupsD x.gs])
def actsD (l : List ActM) : DV := .ls 19 (l.map actD)
section
variable {H : Type} {enc : TypeId × Value → H} {W : World}
theorem ls_row {n : Nat} {v : Value} {y : DataW H × List MemPlace} (h : DataW.trod enc Try.prog W 0 (fun _ => true) true n 59 [v] = some y) (hf : W.noneFrozen y.2) (hb : Rows.uptoBulk y.1 ≤ 1048576) : ∃ l : List GI, ReadsD (fun _ => True) W v (rowD l) :=
  open_lb (f := fun x : GI => [iD x.n]) Try.underlying59 (by kernel_rfl) (by omega) h hf hb fun m cs y hd hl hfr hbb => by
    match cs, hl with
    | [c0], _ =>
      obtain ⟨l, rfl, hi⟩ := trod_i hd
      exact ⟨⟨l, hi⟩, .mk (readsD_i _ _ _) .empty⟩
theorem ls_groups {n : Nat} {v : Value} {y : DataW H × List MemPlace} (h : DataW.trod enc Try.prog W 0 (fun _ => true) true n 52 [v] = some y) (hf : W.noneFrozen y.2) (hb : Rows.uptoBulk y.1 ≤ 1048576) : ∃ l : List (List GI), ReadsD (fun _ => True) W v (groupsD l) :=
  open_lb (f := fun g : List GI => [rowD g]) Try.underlying52 (by kernel_rfl) (by omega) h hf hb fun m cs y hd hl hfr hbb => by
    match cs, hl with
    | [c0], _ =>
      obtain ⟨l, r⟩ := ls_row hd hfr hbb
      exact ⟨l, .mk r .empty⟩
theorem trod_act {n : Nat} {cs : List Value} {y : DataW H × List MemPlace} (h : DataW.trod enc Try.prog W 0 (fun _ => true) true n 54 cs = some y) (hl : cs.length = 19) (hf : W.noneFrozen y.2) (hb : Rows.uptoBulk y.1 ≤ 1048576) : ∃ x : ActM, CellsD (fun _ => True) W cs (actD x) := by
  match cs, hl with
  | [c0, c1, c2, c3, c4, c5, c6, c7, c8, c9, c10, c11, c12, c13, c14, c15, c16, c17, c18], _ =>
    obtain ⟨xs, m, _, hy, _, hlen, hg⟩ := DataW.trod_struct Try.underlying54 h
    match xs, hlen with
    | [y0, y1, y2, y3, y4], _ =>
      subst hy
      simp only [List.map_cons, List.map_nil, Rows.uptoBulk, Rows.uptoBulkAll] at hb
      have h0 : DataW.trod enc Try.prog W 0 (fun _ => true) true m 3 [c0] = some y0 := hg 0 _ rfl
      have h1 : DataW.trod enc Try.prog W 0 (fun _ => true) true m 3 [c1] = some y1 := hg 1 _ rfl
      have h2 : DataW.trod enc Try.prog W 0 (fun _ => true) true m 3 [c2] = some y2 := hg 2 _ rfl
      have h3 : DataW.trod enc Try.prog W 0 (fun _ => true) true m 39 [c3, c4, c5, c6, c7, c8, c9, c10, c11, c12, c13, c14, c15, c16, c17] = some y3 := hg 3 _ rfl
      have f3 : W.noneFrozen y3.2 := fun b o hm => hf b o (by simp only [List.flatMap_cons, List.flatMap_nil, List.mem_append]; exact .inr (.inr (.inr (.inl hm))))
      have b3 : Rows.uptoBulk y3.1 ≤ 1048576 := by omega
      have h4 : DataW.trod enc Try.prog W 0 (fun _ => true) true m 52 [c18] = some y4 := hg 4 _ rfl
      have f4 : W.noneFrozen y4.2 := fun b o hm => hf b o (by simp only [List.flatMap_cons, List.flatMap_nil, List.mem_append]; exact .inr (.inr (.inr (.inr (.inl hm)))))
      have b4 : Rows.uptoBulk y4.1 ≤ 1048576 := by omega
      obtain ⟨a0, rfl, i0⟩ := trod_i h0
      obtain ⟨a1, rfl, i1⟩ := trod_i h1
      obtain ⟨a2, rfl, i2⟩ := trod_i h2
      obtain ⟨a3, r3⟩ := trod_msg h3 rfl f3 b3
      obtain ⟨a4, r4⟩ := ls_groups h4 f4 b4
      exact ⟨⟨a0, ⟨a1, i1⟩, ⟨a2, i2⟩, a3, a4⟩, (.mk (readsD_i _ _ _) (.mk (readsD_i _ _ _) (.mk (readsD_i _ _ _) (cells_snoc' r3 r4))))⟩
theorem ls_act {n : Nat} {v : Value} {y : DataW H × List MemPlace} (h : DataW.trod enc Try.prog W 0 (fun _ => true) true n 49 [v] = some y) (hf : W.noneFrozen y.2) (hb : Rows.uptoBulk y.1 ≤ 1048576) : ∃ l : List ActM, ReadsD (fun _ => True) W v (actsD l) :=
  open_lb (f := actD) Try.underlying49 (by kernel_rfl) (by omega) h hf hb fun m cs y hd hl hfr hbb => trod_act hd hl hfr hbb
end
end Go.Proofs.Ytmcdmcnbnnfhnaa
