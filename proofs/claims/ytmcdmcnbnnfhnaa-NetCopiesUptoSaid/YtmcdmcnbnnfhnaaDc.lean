/-
  Chapter 28: messages as plain data, and how they lie in memory.
-/
import Derived.Test.YtmcdmcnbnnfhnaaDb
namespace Go.Proofs.Ytmcdmcnbnnfhnaa
open Go.RowKit

def v8 (c : UInt8) : Value := .int .u8 ((c.toNat : Nat) : Int)
structure RidM where
  c : Int
  n : Int
  tag : Str
structure WrM where
  obj : Str
  delta : Str
structure CmdM where
  c : Int
  s : Int
  k : Int
  wr : List WrM
  r : Int
  tag : Str
structure AckM where
  r : Int
  tag : Str
structure ClaimM where
  r1 : Int
  r2 : Int
  r3 : Int
  reads : List RidM
  base : List CmdM
  conf : List CmdM
  count : Int
  root : Str
structure CertM where
  claim : ClaimM
  acks : List AckM
structure BaseM where
  steps : List CertM
  taken : List CmdM
structure ProofM where
  steps : List CertM
  last : CertM
structure DigM where
  pre : Str
  sum : Str
  count : Int
structure ItemM where
  key : Str
  present : Bool
  content : Str
  path : List Str
structure MsgM where
  kind : Int
  frm : Int
  to : Int
  r1 : Int
  r2 : Int
  r3 : Int
  reads : List RidM
  base : List BaseM
  state : List CmdM
  acks : List AckM
  proof : List ProofM
  digs : List DigM
  objs : List Str
  seq : Int
  items : List ItemM
def iD (n : Int) : DV := .val (.int .i64 n)
def sD (s : Str) : DV := .val (vs s)
def bytesD (l : Str) : DV := .ls 1 (l.map fun c => [.val (v8 c)])
def ridD (x : RidM) : List DV := [iD x.c, iD x.n, bytesD x.tag]
def ridsD (l : List RidM) : DV := .ls 3 (l.map ridD)
def wrD (x : WrM) : List DV := [sD x.obj, bytesD x.delta]
def wrsD (l : List WrM) : DV := .ls 2 (l.map wrD)
def cmdD (x : CmdM) : List DV := [iD x.c, iD x.s, iD x.k, wrsD x.wr, iD x.r, bytesD x.tag]
def cmdsD (l : List CmdM) : DV := .ls 6 (l.map cmdD)
def ackD (x : AckM) : List DV := [iD x.r, bytesD x.tag]
def acksD (l : List AckM) : DV := .ls 2 (l.map ackD)
def certD (x : CertM) : List DV := [iD x.claim.r1, iD x.claim.r2, iD x.claim.r3, ridsD x.claim.reads, cmdsD x.claim.base, cmdsD x.claim.conf, iD x.claim.count, bytesD x.claim.root, acksD x.acks]
def certsD (l : List CertM) : DV := .ls 9 (l.map certD)
def baseD (x : BaseM) : List DV := [certsD x.steps, cmdsD x.taken]
def basesD (l : List BaseM) : DV := .ls 2 (l.map baseD)
def proofD (x : ProofM) : List DV := certsD x.steps :: certD x.last
def proofsD (l : List ProofM) : DV := .ls 10 (l.map proofD)
def digD (x : DigM) : List DV := [bytesD x.pre, bytesD x.sum, iD x.count]
def digsD (l : List DigM) : DV := .ls 3 (l.map digD)
def objsD (l : List Str) : DV := .ls 1 (l.map fun s => [sD s])
def pathD (l : List Str) : DV := .ls 1 (l.map fun s => [bytesD s])
def itemD (x : ItemM) : List DV := [sD x.key, .val (.bool x.present), bytesD x.content, pathD x.path]
def itemsD (l : List ItemM) : DV := .ls 4 (l.map itemD)
def msgD (x : MsgM) : List DV := [iD x.kind, iD x.frm, iD x.to, iD x.r1, iD x.r2, iD x.r3, ridsD x.reads, basesD x.base, cmdsD x.state, acksD x.acks, proofsD x.proof, digsD x.digs, objsD x.objs, iD x.seq, itemsD x.items]
/-- Cells one behind the other. -/
def CellsD (P : Nat → Prop) (w : World) (cs : List Value) (ds : List DV) : Prop := cs.length = ds.length ∧ ∀ (i : Nat) (u : Value) (d : DV), cs[i]? = some u → ds[i]? = some d → ReadsD P w u d
section
variable {P : Nat → Prop} {w w' : World} {cs : List Value} {ds : List DV} {v : Value}
theorem CellsD.nil (h : CellsD P w cs []) : cs = [] := List.length_eq_zero_iff.1 h.1
theorem CellsD.cons {d : DV} (h : CellsD P w cs (d :: ds)) : ∃ u cs', cs = u :: cs' ∧ ReadsD P w u d ∧ CellsD P w cs' ds := by
  obtain ⟨h1, h2⟩ := h
  match cs, h1 with
  | u :: cs', h1 => exact ⟨u, cs', rfl, h2 0 u d rfl rfl, by simpa using h1, fun i x y hx hy => h2 (i + 1) x y (by simpa using hx) (by simpa using hy)⟩
theorem CellsD.mk {u : Value} {d : DV} (h1 : ReadsD P w u d) (h : CellsD P w cs ds) : CellsD P w (u :: cs) (d :: ds) := by
  refine ⟨by simp [h.1], fun i x y hx hy => ?_⟩
  cases i with
  | zero => simp at hx hy; subst hx hy; exact h1
  | succ i => exact h.2 i x y (by simpa using hx) (by simpa using hy)
theorem CellsD.empty : CellsD P w [] [] := ⟨rfl, fun i x y hx => by simp at hx⟩
theorem CellsD.on (h : CellsD P w cs ds) (hb : Below w.heap.size w w') : CellsD P w' cs ds := ⟨h.1, fun i u d h1 h2 => (h.2 i u d h1 h2).on hb⟩
theorem CellsD.mono {P' : Nat → Prop} (h : CellsD P w cs ds) (hp : ∀ b, P b → b < w.heap.size → P' b) : CellsD P' w cs ds := ⟨h.1, fun i u d h1 h2 => (h.2 i u d h1 h2).mono hp⟩
theorem ReadsD.i {n : Int} (h : ReadsD P w v (iD n)) : v = .int .i64 n := h.atv
theorem ReadsD.s {s : Str} (h : ReadsD P w v (sD s)) : v = vs s := h.atv
theorem readsD_i (P : Nat → Prop) (w : World) (n : Int) : ReadsD P w (.int .i64 n) (iD n) := .val _ rfl
theorem readsD_s (P : Nat → Prop) (w : World) (s : Str) : ReadsD P w (vs s) (sD s) := .val _ rfl
/-- An element of a list of structs. -/
theorem ReadsD.item {α : Type} {f : α → List DV} {K : Nat} {l : List α} (h : ReadsD P w v (.ls K (l.map f))) {j : Nat} (hj : j < l.length) : ∃ (b off cap : Nat) (cs : List Value), v = .slice (some ⟨b, off, none⟩) l.length cap ∧ P b ∧ b < w.heap.size ∧ cs.length = K ∧ (f l[j]).length = K ∧ (∀ wq, Below w.heap.size w wq → ∀ i u, cs[i]? = some u → wq.cell? ⟨b, off + j * K + i, none⟩ = some u) ∧ CellsD P w cs (f l[j]) := by
  obtain ⟨b, off, cap, us, h1, h2, h3, h4, h5, h6⟩ := h.elem (j := j) (by simpa using hj)
  simp only [List.length_map, List.getElem_map] at h1 h4 h6
  refine ⟨b, off, cap, (List.range K).map us, h1, h2, h3, by simp, h4, fun wq hq i u hu => ?_, by simp [h4], fun i u d hu hd => ?_⟩
  · rw [List.getElem?_map] at hu
    by_cases hi : i < K
    · rw [List.getElem?_range hi] at hu
      simp at hu
      rw [← hu]
      exact (hq.cell (p := ⟨b, off + j * K + i, none⟩) h3).trans (h5 i hi)
    · rw [List.getElem?_eq_none (by simpa using hi)] at hu; cases hu
  · obtain ⟨hi, rfl⟩ := List.getElem?_eq_some_iff.1 hd
    rw [List.getElem?_map, List.getElem?_range (by omega)] at hu
    simp at hu
    rw [← hu]
    exact h6 i hi
theorem ReadsD.slcM {α : Type} {f : α → List DV} {K : Nat} {l : List α} (h : ReadsD P w v (.ls K (l.map f))) : ∃ ao cap, v = .slice ao l.length cap ∧ l.length ≤ cap ∧ cap ≤ maxLen ∧ (ao = none → cap = 0) ∧ l.length ≤ 1048576 := by
  have h1 := h.slc
  simpa using h1
end
end Go.Proofs.Ytmcdmcnbnnfhnaa
