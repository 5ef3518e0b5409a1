/-
  NetCopies: a round of its second loop: one act more on each of both pairs. No condition of its own.
-/
import Derived.Deep.CutBlock
import Derived.Test.YtmcdmcnbnnfhnaaYw
namespace Go.Proofs.Ytmcdmcnbnnfhnaa.netCopies
open Go.ChangeShapes Go.WideShapes Go.ChangeAt Go.RowKit Go.Proofs.Ytmcdmcnbnnfhnaa
set_option maxRecDepth 100000
theorem wpList_load_midW {P : Program} {ops : Array Oper} {rest : List Oper} {op : Oper} {a : Act} {w : World} {Q : Exit → Act → World → Prop} (hw : Region.wanted op (yielded ops a.tmps) = true) (t : TypeId) (x : Operand) (ho : op.op = .load t x)
    (b o : Nat) (hx : a.eval x = .pointer (some ⟨b, o, none⟩)) (cs : List Value) (d : TypeDesc) (hc : w.rangeAt b o cs) (hu : P.underlying t = some d) (hd : d.isRow = true) (hi : (P.info? t).map (·.size) = some cs.length)
    (h : wpList P ops Q rest (a.put op.dst (.agg cs.toArray)) w) : wpList P ops Q (op :: rest) a w :=
  wpList_step fun K hK => by rw [if_pos hw]; exact wp_load_mid t x ho b o hx cs d hc hu hd hi (hK _ _ h)
/-- A part of a statement: left (false) or right (true) at each step. -/
def subC : List Bool → Code → Code
  | [], c => c
  | false :: p, .seq a _ => subC p a
  | true :: p, .seq _ b => subC p b
  | _ :: p, .block _ c => subC p c
  | _ :: p, .loop c => subC p c
  | false :: p, .cond _ a _ => subC p a
  | true :: p, .cond _ _ b => subC p b
  | _ :: _, c => c
set_option maxHeartbeats 16000000 in
theorem round11 {W w8 : World} {n u m v q cap2 cap3 : Nat} {ao2 ao3 : Option Addr} {second third : List ActM} (ha2 : ReadsD (fun k => k < W.heap.size) W (.slice ao2 second.length cap2) (actsD second)) (ha3 : ReadsD (fun k => k < W.heap.size) W (.slice ao3 third.length cap3) (actsD third)) (_hL2 : second.length ≤ 1048576) (_hL3 : third.length ≤ 1048576)
    (hb8 : Both W.heap.size n u m v 50 (60 + q) (60 + q) w8) (hl8 : Below W.heap.size W w8) (hq : q < 60) (hs : q < second.length) (ht : q < third.length) {f0 f3 f4 f5 f6 f8 f10 f14 f15 f16 f17 f18 f19 f20 f21 f22 f23 f24 f25 f26 f27 f28 f29 f30 f31 f32 f33 f34 f35 f36 f37 f38 f39 f40 f41 f42 f43 f44 f45 f46 f47 f48 f49 f50 f51 f52 f53 f54 f55 f56 f57 f58 f59 f60 f61 f62 f63 f64 f65 f66 f67 f68 f69 f70 f71 f72 f73 f74 f75 f76 f77 f78 f79 f80 f81 f82 f83 f84 f85 f86 f87 f88 f89 f90 f91 f92 : Value} {K' : Act → World → Prop} {Q' : Exit → Act → World → Prop}
    (hK : ∀ (w' : World) (z55 z56 z57 z58 z59 z60 z61 z62 z63 z64 z65 z66 z67 z68 z69 z70 z71 z72 z73 z74 z75 z76 z77 z78 z79 z80 z81 z82 z83 z84 : Value), Both W.heap.size n u m v 50 (60 + (q + 1)) (60 + (q + 1)) w' → Below W.heap.size W w' → K' ⟨#[f0, .slice ao2 second.length cap2, .slice ao3 third.length cap3, f3, f4, f5, f6, .pointer (some ⟨n, 0, none⟩), f8, .pointer (some ⟨u, 0, none⟩), f10, .pointer (some ⟨m, 0, none⟩), .pointer (some ⟨v, 0, none⟩), .int .i64 (q : Int), f14, f15, f16, f17, f18, f19, f20, f21, f22, f23, f24, f25, f26, f27, f28, f29, f30, f31, f32, f33, f34, f35, f36, f37, f38, f39, f40, f41, f42, f43, f44, f45, f46, f47, f48, f49, f50, f51, f52, f53, f54, z55, z56, z57, z58, z59, z60, z61, z62, z63, z64, z65, z66, z67, z68, z69, z70, z71, z72, z73, z74, z75, z76, z77, z78, z79, z80, z81, z82, z83, z84, f85, f86, f87, f88, f89, f90, f91, f92], []⟩ w') :
    Code.wp Try.prog (subC [true, true, true, true, true, true, true, true, true, false, true, false, false, true, false] (Try.f7.body.getD .skip)) (Exit.then K' Q') ⟨#[f0, .slice ao2 second.length cap2, .slice ao3 third.length cap3, f3, f4, f5, f6, .pointer (some ⟨n, 0, none⟩), f8, .pointer (some ⟨u, 0, none⟩), f10, .pointer (some ⟨m, 0, none⟩), .pointer (some ⟨v, 0, none⟩), .int .i64 (q : Int), f14, f15, f16, f17, f18, f19, f20, f21, f22, f23, f24, f25, f26, f27, f28, f29, f30, f31, f32, f33, f34, f35, f36, f37, f38, f39, f40, f41, f42, f43, f44, f45, f46, f47, f48, f49, f50, f51, f52, f53, f54, f55, f56, f57, f58, f59, f60, f61, f62, f63, f64, f65, f66, f67, f68, f69, f70, f71, f72, f73, f74, f75, f76, f77, f78, f79, f80, f81, f82, f83, f84, f85, f86, f87, f88, f89, f90, f91, f92], []⟩ w8 := by
  have HA2 := Lib.hid ha2
  have HA3 := Lib.hid ha3
  have HB8 := Lib.hid hb8
  have HL8 := Lib.hid hl8
  have HQ60 := Lib.hid (And.intro hq trivial)
  have HKK := Lib.hid hK
  have hq0 : (0 : Int) ≤ (q : Int) := by omega
  clear ha2 ha3 hb8 hl8 hq hK
  dsimp only [subC, Try.f7, Option.getD]
  have hsi : (q : Int) < second.length := by omega
  obtain ⟨yb, yo, yc, ycs, ye, -, -, yn, -, yg, yq⟩ := ReadsD.item (f := actD) (HA2.out.keep HL8.out.size fun k hk _ => HL8.out.block k hk) hs
  injection ye with y1 y2 y3
  subst y1
  clear y2 y3
  generalize second[q] = x at *
  have HRGy := Lib.hid (show w8.rangeAt yb (yo + q * 19) ycs from yg w8 (Below.refl _ _))
  have HNy := Lib.hid yn
  have HST := Lib.hid (HB8.out.step1 (by have := HQ60.out; omega) HL8.out.size x _ yq)
  clear hs yg yq yn
  have hti : (q : Int) < third.length := by omega
  go_wp2_with (refine wpList_load_midW (by rfl) 54 (.tmp 64) rfl yb (yo + q * 19) rfl ycs _ HRGy.out Try.underlying54 rfl (by rw [HNy.out]; kernel_rfl) ?_)
  refine HST.out.mono ?_
  rintro e w9 ⟨rfl, h9, hb9⟩
  have H9 := Lib.hid h9
  have HL9 := Lib.hid (HL8.out.trans hb9)
  clear h9 hb9 HST
  obtain ⟨zb, zo, zc, zcs, ze, -, -, zn, -, zg, zq⟩ := ReadsD.item (f := actD) (HA3.out.keep HL9.out.size fun k hk _ => HL9.out.block k hk) ht
  injection ze with z1 z2 z3
  subst z1
  clear z2 z3
  generalize third[q] = x3 at *
  have HRGz := Lib.hid (show w9.rangeAt zb (zo + q * 19) zcs from zg w9 (Below.refl _ _))
  have HNz := Lib.hid zn
  have HST3 := Lib.hid (H9.out.step2 (by have := HQ60.out; omega) HL9.out.size x3 _ zq)
  clear ht zg zq zn
  go_wp2_with (refine wpList_load_midW (by rfl) 54 (.tmp 79) rfl zb (zo + q * 19) rfl zcs _ HRGz.out Try.underlying54 rfl (by rw [HNz.out]; kernel_rfl) ?_)
  refine HST3.out.mono ?_
  rintro e w10 ⟨rfl, h10, hb10⟩
  have H10 := Lib.hid h10
  have HL10 := Lib.hid (HL9.out.trans hb10)
  clear h10 hb10 HST3
  go_wp2_with fail
  apply HKK.out
  · exact H10.out.le (by omega) (by omega)
  · exact HL10.out
set_option maxHeartbeats 16000000 in
theorem round10 {W w8 : World} {n u m v q cap2 cap3 : Nat} {ao2 ao3 : Option Addr} {second third : List ActM} (ha2 : ReadsD (fun k => k < W.heap.size) W (.slice ao2 second.length cap2) (actsD second)) (ha3 : ReadsD (fun k => k < W.heap.size) W (.slice ao3 third.length cap3) (actsD third)) (_hL2 : second.length ≤ 1048576) (_hL3 : third.length ≤ 1048576)
    (hb8 : Both W.heap.size n u m v 50 (60 + q) (60 + q) w8) (hl8 : Below W.heap.size W w8) (hq : q < 60) (hs : q < second.length) (ht : ¬ q < third.length) {f0 f3 f4 f5 f6 f8 f10 f14 f15 f16 f17 f18 f19 f20 f21 f22 f23 f24 f25 f26 f27 f28 f29 f30 f31 f32 f33 f34 f35 f36 f37 f38 f39 f40 f41 f42 f43 f44 f45 f46 f47 f48 f49 f50 f51 f52 f53 f54 f55 f56 f57 f58 f59 f60 f61 f62 f63 f64 f65 f66 f67 f68 f69 f70 f71 f72 f73 f74 f75 f76 f77 f78 f79 f80 f81 f82 f83 f84 f85 f86 f87 f88 f89 f90 f91 f92 : Value} {K' : Act → World → Prop} {Q' : Exit → Act → World → Prop}
    (hK : ∀ (w' : World) (z55 z56 z57 z58 z59 z60 z61 z62 z63 z64 z65 z66 z67 z68 z69 z70 z71 z72 z73 z74 z75 z76 z77 z78 z79 z80 z81 z82 z83 z84 : Value), Both W.heap.size n u m v 50 (60 + (q + 1)) (60 + (q + 1)) w' → Below W.heap.size W w' → K' ⟨#[f0, .slice ao2 second.length cap2, .slice ao3 third.length cap3, f3, f4, f5, f6, .pointer (some ⟨n, 0, none⟩), f8, .pointer (some ⟨u, 0, none⟩), f10, .pointer (some ⟨m, 0, none⟩), .pointer (some ⟨v, 0, none⟩), .int .i64 (q : Int), f14, f15, f16, f17, f18, f19, f20, f21, f22, f23, f24, f25, f26, f27, f28, f29, f30, f31, f32, f33, f34, f35, f36, f37, f38, f39, f40, f41, f42, f43, f44, f45, f46, f47, f48, f49, f50, f51, f52, f53, f54, z55, z56, z57, z58, z59, z60, z61, z62, z63, z64, z65, z66, z67, z68, z69, z70, z71, z72, z73, z74, z75, z76, z77, z78, z79, z80, z81, z82, z83, z84, f85, f86, f87, f88, f89, f90, f91, f92], []⟩ w') :
    Code.wp Try.prog (subC [true, true, true, true, true, true, true, true, true, false, true, false, false, true, false] (Try.f7.body.getD .skip)) (Exit.then K' Q') ⟨#[f0, .slice ao2 second.length cap2, .slice ao3 third.length cap3, f3, f4, f5, f6, .pointer (some ⟨n, 0, none⟩), f8, .pointer (some ⟨u, 0, none⟩), f10, .pointer (some ⟨m, 0, none⟩), .pointer (some ⟨v, 0, none⟩), .int .i64 (q : Int), f14, f15, f16, f17, f18, f19, f20, f21, f22, f23, f24, f25, f26, f27, f28, f29, f30, f31, f32, f33, f34, f35, f36, f37, f38, f39, f40, f41, f42, f43, f44, f45, f46, f47, f48, f49, f50, f51, f52, f53, f54, f55, f56, f57, f58, f59, f60, f61, f62, f63, f64, f65, f66, f67, f68, f69, f70, f71, f72, f73, f74, f75, f76, f77, f78, f79, f80, f81, f82, f83, f84, f85, f86, f87, f88, f89, f90, f91, f92], []⟩ w8 := by
  have HA2 := Lib.hid ha2
  have HA3 := Lib.hid ha3
  have HB8 := Lib.hid hb8
  have HL8 := Lib.hid hl8
  have HQ60 := Lib.hid (And.intro hq trivial)
  have HKK := Lib.hid hK
  have hq0 : (0 : Int) ≤ (q : Int) := by omega
  clear ha2 ha3 hb8 hl8 hq hK
  dsimp only [subC, Try.f7, Option.getD]
  have hsi : (q : Int) < second.length := by omega
  obtain ⟨yb, yo, yc, ycs, ye, -, -, yn, -, yg, yq⟩ := ReadsD.item (f := actD) (HA2.out.keep HL8.out.size fun k hk _ => HL8.out.block k hk) hs
  injection ye with y1 y2 y3
  subst y1
  clear y2 y3
  generalize second[q] = x at *
  have HRGy := Lib.hid (show w8.rangeAt yb (yo + q * 19) ycs from yg w8 (Below.refl _ _))
  have HNy := Lib.hid yn
  have HST := Lib.hid (HB8.out.step1 (by have := HQ60.out; omega) HL8.out.size x _ yq)
  clear hs yg yq yn
  have hti : ¬ (q : Int) < third.length := by omega
  clear ht
  go_wp2_with (refine wpList_load_midW (by rfl) 54 (.tmp 64) rfl yb (yo + q * 19) rfl ycs _ HRGy.out Try.underlying54 rfl (by rw [HNy.out]; kernel_rfl) ?_)
  refine HST.out.mono ?_
  rintro e w9 ⟨rfl, h9, hb9⟩
  have H9 := Lib.hid h9
  have HL9 := Lib.hid (HL8.out.trans hb9)
  clear h9 hb9 HST
  go_wp2_with fail
  apply HKK.out
  · exact H9.out.le (by omega) (by omega)
  · exact HL9.out
set_option maxHeartbeats 16000000 in
theorem round01 {W w8 : World} {n u m v q cap2 cap3 : Nat} {ao2 ao3 : Option Addr} {second third : List ActM} (ha2 : ReadsD (fun k => k < W.heap.size) W (.slice ao2 second.length cap2) (actsD second)) (ha3 : ReadsD (fun k => k < W.heap.size) W (.slice ao3 third.length cap3) (actsD third)) (_hL2 : second.length ≤ 1048576) (_hL3 : third.length ≤ 1048576)
    (hb8 : Both W.heap.size n u m v 50 (60 + q) (60 + q) w8) (hl8 : Below W.heap.size W w8) (hq : q < 60) (hs : ¬ q < second.length) (ht : q < third.length) {f0 f3 f4 f5 f6 f8 f10 f14 f15 f16 f17 f18 f19 f20 f21 f22 f23 f24 f25 f26 f27 f28 f29 f30 f31 f32 f33 f34 f35 f36 f37 f38 f39 f40 f41 f42 f43 f44 f45 f46 f47 f48 f49 f50 f51 f52 f53 f54 f55 f56 f57 f58 f59 f60 f61 f62 f63 f64 f65 f66 f67 f68 f69 f70 f71 f72 f73 f74 f75 f76 f77 f78 f79 f80 f81 f82 f83 f84 f85 f86 f87 f88 f89 f90 f91 f92 : Value} {K' : Act → World → Prop} {Q' : Exit → Act → World → Prop}
    (hK : ∀ (w' : World) (z55 z56 z57 z58 z59 z60 z61 z62 z63 z64 z65 z66 z67 z68 z69 z70 z71 z72 z73 z74 z75 z76 z77 z78 z79 z80 z81 z82 z83 z84 : Value), Both W.heap.size n u m v 50 (60 + (q + 1)) (60 + (q + 1)) w' → Below W.heap.size W w' → K' ⟨#[f0, .slice ao2 second.length cap2, .slice ao3 third.length cap3, f3, f4, f5, f6, .pointer (some ⟨n, 0, none⟩), f8, .pointer (some ⟨u, 0, none⟩), f10, .pointer (some ⟨m, 0, none⟩), .pointer (some ⟨v, 0, none⟩), .int .i64 (q : Int), f14, f15, f16, f17, f18, f19, f20, f21, f22, f23, f24, f25, f26, f27, f28, f29, f30, f31, f32, f33, f34, f35, f36, f37, f38, f39, f40, f41, f42, f43, f44, f45, f46, f47, f48, f49, f50, f51, f52, f53, f54, z55, z56, z57, z58, z59, z60, z61, z62, z63, z64, z65, z66, z67, z68, z69, z70, z71, z72, z73, z74, z75, z76, z77, z78, z79, z80, z81, z82, z83, z84, f85, f86, f87, f88, f89, f90, f91, f92], []⟩ w') :
    Code.wp Try.prog (subC [true, true, true, true, true, true, true, true, true, false, true, false, false, true, false] (Try.f7.body.getD .skip)) (Exit.then K' Q') ⟨#[f0, .slice ao2 second.length cap2, .slice ao3 third.length cap3, f3, f4, f5, f6, .pointer (some ⟨n, 0, none⟩), f8, .pointer (some ⟨u, 0, none⟩), f10, .pointer (some ⟨m, 0, none⟩), .pointer (some ⟨v, 0, none⟩), .int .i64 (q : Int), f14, f15, f16, f17, f18, f19, f20, f21, f22, f23, f24, f25, f26, f27, f28, f29, f30, f31, f32, f33, f34, f35, f36, f37, f38, f39, f40, f41, f42, f43, f44, f45, f46, f47, f48, f49, f50, f51, f52, f53, f54, f55, f56, f57, f58, f59, f60, f61, f62, f63, f64, f65, f66, f67, f68, f69, f70, f71, f72, f73, f74, f75, f76, f77, f78, f79, f80, f81, f82, f83, f84, f85, f86, f87, f88, f89, f90, f91, f92], []⟩ w8 := by
  have HA2 := Lib.hid ha2
  have HA3 := Lib.hid ha3
  have HB8 := Lib.hid hb8
  have HL8 := Lib.hid hl8
  have HQ60 := Lib.hid (And.intro hq trivial)
  have HKK := Lib.hid hK
  have hq0 : (0 : Int) ≤ (q : Int) := by omega
  clear ha2 ha3 hb8 hl8 hq hK
  dsimp only [subC, Try.f7, Option.getD]
  have hsi : ¬ (q : Int) < second.length := by omega
  clear hs
  have hti : (q : Int) < third.length := by omega
  obtain ⟨zb, zo, zc, zcs, ze, -, -, zn, -, zg, zq⟩ := ReadsD.item (f := actD) (HA3.out.keep HL8.out.size fun k hk _ => HL8.out.block k hk) ht
  injection ze with z1 z2 z3
  subst z1
  clear z2 z3
  generalize third[q] = x3 at *
  have HRGz := Lib.hid (show w8.rangeAt zb (zo + q * 19) zcs from zg w8 (Below.refl _ _))
  have HNz := Lib.hid zn
  have HST3 := Lib.hid (HB8.out.step2 (by have := HQ60.out; omega) HL8.out.size x3 _ zq)
  clear ht zg zq zn
  go_wp2_with (refine wpList_load_midW (by rfl) 54 (.tmp 79) rfl zb (zo + q * 19) rfl zcs _ HRGz.out Try.underlying54 rfl (by rw [HNz.out]; kernel_rfl) ?_)
  refine HST3.out.mono ?_
  rintro e w10 ⟨rfl, h10, hb10⟩
  have H10 := Lib.hid h10
  have HL10 := Lib.hid (HL8.out.trans hb10)
  clear h10 hb10 HST3
  go_wp2_with fail
  apply HKK.out
  · exact H10.out.le (by omega) (by omega)
  · exact HL10.out
set_option maxHeartbeats 16000000 in
theorem round00 {W w8 : World} {n u m v q cap2 cap3 : Nat} {ao2 ao3 : Option Addr} {second third : List ActM} (ha2 : ReadsD (fun k => k < W.heap.size) W (.slice ao2 second.length cap2) (actsD second)) (ha3 : ReadsD (fun k => k < W.heap.size) W (.slice ao3 third.length cap3) (actsD third)) (_hL2 : second.length ≤ 1048576) (_hL3 : third.length ≤ 1048576)
    (hb8 : Both W.heap.size n u m v 50 (60 + q) (60 + q) w8) (hl8 : Below W.heap.size W w8) (hq : q < 60) (hs : ¬ q < second.length) (ht : ¬ q < third.length) {f0 f3 f4 f5 f6 f8 f10 f14 f15 f16 f17 f18 f19 f20 f21 f22 f23 f24 f25 f26 f27 f28 f29 f30 f31 f32 f33 f34 f35 f36 f37 f38 f39 f40 f41 f42 f43 f44 f45 f46 f47 f48 f49 f50 f51 f52 f53 f54 f55 f56 f57 f58 f59 f60 f61 f62 f63 f64 f65 f66 f67 f68 f69 f70 f71 f72 f73 f74 f75 f76 f77 f78 f79 f80 f81 f82 f83 f84 f85 f86 f87 f88 f89 f90 f91 f92 : Value} {K' : Act → World → Prop} {Q' : Exit → Act → World → Prop}
    (hK : ∀ (w' : World) (z55 z56 z57 z58 z59 z60 z61 z62 z63 z64 z65 z66 z67 z68 z69 z70 z71 z72 z73 z74 z75 z76 z77 z78 z79 z80 z81 z82 z83 z84 : Value), Both W.heap.size n u m v 50 (60 + (q + 1)) (60 + (q + 1)) w' → Below W.heap.size W w' → K' ⟨#[f0, .slice ao2 second.length cap2, .slice ao3 third.length cap3, f3, f4, f5, f6, .pointer (some ⟨n, 0, none⟩), f8, .pointer (some ⟨u, 0, none⟩), f10, .pointer (some ⟨m, 0, none⟩), .pointer (some ⟨v, 0, none⟩), .int .i64 (q : Int), f14, f15, f16, f17, f18, f19, f20, f21, f22, f23, f24, f25, f26, f27, f28, f29, f30, f31, f32, f33, f34, f35, f36, f37, f38, f39, f40, f41, f42, f43, f44, f45, f46, f47, f48, f49, f50, f51, f52, f53, f54, z55, z56, z57, z58, z59, z60, z61, z62, z63, z64, z65, z66, z67, z68, z69, z70, z71, z72, z73, z74, z75, z76, z77, z78, z79, z80, z81, z82, z83, z84, f85, f86, f87, f88, f89, f90, f91, f92], []⟩ w') :
    Code.wp Try.prog (subC [true, true, true, true, true, true, true, true, true, false, true, false, false, true, false] (Try.f7.body.getD .skip)) (Exit.then K' Q') ⟨#[f0, .slice ao2 second.length cap2, .slice ao3 third.length cap3, f3, f4, f5, f6, .pointer (some ⟨n, 0, none⟩), f8, .pointer (some ⟨u, 0, none⟩), f10, .pointer (some ⟨m, 0, none⟩), .pointer (some ⟨v, 0, none⟩), .int .i64 (q : Int), f14, f15, f16, f17, f18, f19, f20, f21, f22, f23, f24, f25, f26, f27, f28, f29, f30, f31, f32, f33, f34, f35, f36, f37, f38, f39, f40, f41, f42, f43, f44, f45, f46, f47, f48, f49, f50, f51, f52, f53, f54, f55, f56, f57, f58, f59, f60, f61, f62, f63, f64, f65, f66, f67, f68, f69, f70, f71, f72, f73, f74, f75, f76, f77, f78, f79, f80, f81, f82, f83, f84, f85, f86, f87, f88, f89, f90, f91, f92], []⟩ w8 := by
  have HA2 := Lib.hid ha2
  have HA3 := Lib.hid ha3
  have HB8 := Lib.hid hb8
  have HL8 := Lib.hid hl8
  have HQ60 := Lib.hid (And.intro hq trivial)
  have HKK := Lib.hid hK
  have hq0 : (0 : Int) ≤ (q : Int) := by omega
  clear ha2 ha3 hb8 hl8 hq hK
  dsimp only [subC, Try.f7, Option.getD]
  have hsi : ¬ (q : Int) < second.length := by omega
  clear hs
  have hti : ¬ (q : Int) < third.length := by omega
  clear ht
  go_wp2_with fail
  apply HKK.out
  · exact HB8.out.le (by omega) (by omega)
  · exact HL8.out
set_option maxHeartbeats 16000000 in
theorem roundC {W w8 : World} {n u m v q cap2 cap3 : Nat} {ao2 ao3 : Option Addr} {second third : List ActM} (ha2 : ReadsD (fun k => k < W.heap.size) W (.slice ao2 second.length cap2) (actsD second)) (ha3 : ReadsD (fun k => k < W.heap.size) W (.slice ao3 third.length cap3) (actsD third)) (hL2 : second.length ≤ 1048576) (hL3 : third.length ≤ 1048576)
    (hb8 : Both W.heap.size n u m v 50 (60 + q) (60 + q) w8) (hl8 : Below W.heap.size W w8) (hq : q < 60) {f0 f3 f4 f5 f6 f8 f10 f14 f15 f16 f17 f18 f19 f20 f21 f22 f23 f24 f25 f26 f27 f28 f29 f30 f31 f32 f33 f34 f35 f36 f37 f38 f39 f40 f41 f42 f43 f44 f45 f46 f47 f48 f49 f50 f51 f52 f53 f54 f55 f56 f57 f58 f59 f60 f61 f62 f63 f64 f65 f66 f67 f68 f69 f70 f71 f72 f73 f74 f75 f76 f77 f78 f79 f80 f81 f82 f83 f84 f85 f86 f87 f88 f89 f90 f91 f92 : Value} {K' : Act → World → Prop} {Q' : Exit → Act → World → Prop}
    (hK : ∀ (w' : World) (z55 z56 z57 z58 z59 z60 z61 z62 z63 z64 z65 z66 z67 z68 z69 z70 z71 z72 z73 z74 z75 z76 z77 z78 z79 z80 z81 z82 z83 z84 : Value), Both W.heap.size n u m v 50 (60 + (q + 1)) (60 + (q + 1)) w' → Below W.heap.size W w' → K' ⟨#[f0, .slice ao2 second.length cap2, .slice ao3 third.length cap3, f3, f4, f5, f6, .pointer (some ⟨n, 0, none⟩), f8, .pointer (some ⟨u, 0, none⟩), f10, .pointer (some ⟨m, 0, none⟩), .pointer (some ⟨v, 0, none⟩), .int .i64 (q : Int), f14, f15, f16, f17, f18, f19, f20, f21, f22, f23, f24, f25, f26, f27, f28, f29, f30, f31, f32, f33, f34, f35, f36, f37, f38, f39, f40, f41, f42, f43, f44, f45, f46, f47, f48, f49, f50, f51, f52, f53, f54, z55, z56, z57, z58, z59, z60, z61, z62, z63, z64, z65, z66, z67, z68, z69, z70, z71, z72, z73, z74, z75, z76, z77, z78, z79, z80, z81, z82, z83, z84, f85, f86, f87, f88, f89, f90, f91, f92], []⟩ w') :
    Code.wp Try.prog (subC [true, true, true, true, true, true, true, true, true, false, true, false, false, true, false] (Try.f7.body.getD .skip)) (Exit.then K' Q') ⟨#[f0, .slice ao2 second.length cap2, .slice ao3 third.length cap3, f3, f4, f5, f6, .pointer (some ⟨n, 0, none⟩), f8, .pointer (some ⟨u, 0, none⟩), f10, .pointer (some ⟨m, 0, none⟩), .pointer (some ⟨v, 0, none⟩), .int .i64 (q : Int), f14, f15, f16, f17, f18, f19, f20, f21, f22, f23, f24, f25, f26, f27, f28, f29, f30, f31, f32, f33, f34, f35, f36, f37, f38, f39, f40, f41, f42, f43, f44, f45, f46, f47, f48, f49, f50, f51, f52, f53, f54, f55, f56, f57, f58, f59, f60, f61, f62, f63, f64, f65, f66, f67, f68, f69, f70, f71, f72, f73, f74, f75, f76, f77, f78, f79, f80, f81, f82, f83, f84, f85, f86, f87, f88, f89, f90, f91, f92], []⟩ w8 := by
  by_cases hs : q < second.length
  · by_cases ht : q < third.length
    · exact round11 ha2 ha3 hL2 hL3 hb8 hl8 hq hs ht hK
    · exact round10 ha2 ha3 hL2 hL3 hb8 hl8 hq hs ht hK
  · by_cases ht : q < third.length
    · exact round01 ha2 ha3 hL2 hL3 hb8 hl8 hq hs ht hK
    · exact round00 ha2 ha3 hL2 hL3 hb8 hl8 hq hs ht hK
end Go.Proofs.Ytmcdmcnbnnfhnaa.netCopies
