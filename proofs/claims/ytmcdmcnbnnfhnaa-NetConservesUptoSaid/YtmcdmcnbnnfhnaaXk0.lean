/-
  NetConserves, what one act does: kind of none of the six. No condition of its own.
-/
import Derived.Test.YtmcdmcnbnnfhnaaXc
namespace Go.Proofs.Ytmcdmcnbnnfhnaa.netConserves
open Go.ChangeShapes Go.WideShapes Go.ChangeAt Go.RowKit Go.Proofs.Ytmcdmcnbnnfhnaa
set_option maxRecDepth 100000
set_option maxHeartbeats 16000000 in
theorem kind0 {W w5 : World} {l : Int} {k n b g8 : Nat} {gn u7 u8 : Value} {s : NetS} {L : List MsgM} {G : List Bool} {x : ActM} {mc : List Value} {gvv : Value} (hinv : InvS l s k) (hik : InvK s L G) (hkl : k ≤ 1048576) (hc5 : CW W w5 n b gn u7 u8 s L G) (h5 : CellsD (fun k => k < W.heap.size) w5 mc (msgD x.m) ∧ ReadsD (fun k => k < W.heap.size) w5 gvv (groupsD x.gs))
    (hbx : Blk w5 g8 54 (.int .i64 x.kind :: .int .i64 x.a.n :: .int .i64 x.b.n :: (mc ++ [gvv])).toArray) (hml : mc.length = 15) (hg8 : W.heap.size ≤ g8 ∧ u7.ownBlock ≠ some g8 ∧ u8.ownBlock ≠ some g8 ∧ g8 ≠ n ∧ g8 ≠ b) (hle : W.heap.size ≤ n ∧ W.heap.size ≤ b) (hkd : ¬ x.kind = 1 ∧ ¬ x.kind = 4 ∧ ¬ x.kind = 2 ∧ ¬ x.kind = 3 ∧ ¬ x.kind = 5 ∧ ¬ x.kind = 6)
    {f0 f1 f2 f3 f4 f6 f9 f11 f12 f13 f14 f15 f16 f17 f18 f19 f20 f21 f22 f23 f24 f25 f26 f27 f28 f29 f30 f31 f32 f33 f34 f35 f36 f37 f38 f39 f40 f41 f42 f43 f44 f45 f46 f47 f48 f49 f51 f52 f53 f54 f55 f56 f57 f58 f59 f60 f61 f62 f63 f64 f65 f66 f67 f68 f69 f70 f71 f72 f73 f74 f75 f76 f77 f78 f79 f80 f81 f82 f83 f84 f85 f86 f87 f88 f89 f90 f91 f92 f93 f94 f95 f96 f97 f98 f99 f100 f101 f102 f103 f104 f105 f106 f107 f108 f109 f110 f111 f112 f113 f114 f115 f116 f117 f118 f119 f120 f121 f122 f123 f124 f125 f126 f127 f128 f129 f130 f131 f132 f133 f134 f135 f136 f137 f138 f139 f140 f141 f142 f143 f144 f145 f146 f147 f148 f149 f150 f151 f152 f153 f154 f155 f156 f157 f158 f159 f160 f161 f162 f163 f164 f165 f166 f167 f168 f169 f170 f171 f172 f173 f174 f175 f176 f177 f178 f179 f180 f181 f182 f183 f184 f185 f186 f187 f188 f189 f190 f191 f192 f193 f194 f195 f196 f197 f198 f199 f200 f201 f202 : Value} {K' : Act → World → Prop} {Q' : Exit → Act → World → Prop}
    (hK : ∀ (kv' gv' : Value) (w' : World) (z11 z12 z13 z14 z15 z35 z36 z37 z38 z39 z40 z41 z42 z43 z44 z45 z46 z47 z48 z49 z50 z51 z52 z53 z54 z55 z56 z57 z58 z59 z60 z61 z62 z63 z64 z65 z66 z67 z68 z69 z70 z71 z72 z73 z74 z75 z76 z77 z78 z79 z80 z81 z82 z83 z84 z85 z86 z87 z88 z89 z90 z91 z92 z93 z94 z95 z96 z97 z98 z99 z100 z101 z102 z103 z104 z105 z106 z107 z108 z109 z110 z111 z112 z113 z114 z115 z116 z117 z118 z119 z120 z121 z122 z123 z124 z125 z126 z127 z128 z129 z130 z131 z132 z133 z134 z135 z136 z137 z138 z139 z140 z141 z142 z143 z144 z145 z146 z147 z148 z149 z150 z151 z152 z153 z154 z155 z156 z157 z158 z159 z160 z161 z162 z163 z164 z165 z166 z167 z168 z169 z170 z171 z172 z173 z174 z175 z176 z177 z178 z179 z180 z181 z182 z183 z184 z185 z186 z187 z188 z189 z190 z191 z192 z193 z194 z195 z196 z197 z198 z199 z200 z201 z202 : Value), (∃ s L G gn, InvS l s (k + 1) ∧ InvK s L G ∧ CW W w' n b gn kv' gv' s L G) → K' ⟨#[f0, f1, f2, f3, f4, .pointer (some ⟨n, 0, none⟩), f6, kv', gv', f9, .pointer (some ⟨g8, 0, none⟩), z11, z12, z13, z14, z15, f16, f17, f18, f19, f20, f21, f22, f23, f24, f25, f26, f27, f28, f29, f30, f31, f32, f33, f34, z35, z36, z37, z38, z39, z40, z41, z42, z43, z44, z45, z46, z47, z48, z49, z50, z51, z52, z53, z54, z55, z56, z57, z58, z59, z60, z61, z62, z63, z64, z65, z66, z67, z68, z69, z70, z71, z72, z73, z74, z75, z76, z77, z78, z79, z80, z81, z82, z83, z84, z85, z86, z87, z88, z89, z90, z91, z92, z93, z94, z95, z96, z97, z98, z99, z100, z101, z102, z103, z104, z105, z106, z107, z108, z109, z110, z111, z112, z113, z114, z115, z116, z117, z118, z119, z120, z121, z122, z123, z124, z125, z126, z127, z128, z129, z130, z131, z132, z133, z134, z135, z136, z137, z138, z139, z140, z141, z142, z143, z144, z145, z146, z147, z148, z149, z150, z151, z152, z153, z154, z155, z156, z157, z158, z159, z160, z161, z162, z163, z164, z165, z166, z167, z168, z169, z170, z171, z172, z173, z174, z175, z176, z177, z178, z179, z180, z181, z182, z183, z184, z185, z186, z187, z188, z189, z190, z191, z192, z193, z194, z195, z196, z197, z198, z199, z200, z201, z202, undef, undef, undef, undef, undef, undef, undef, undef, undef, undef, undef, undef, undef, undef, undef, undef, undef, undef, undef, undef], []⟩ w') :
    Code.wp Try.prog (subC [true, true, true, true, true, true, false, true, false, false, true, false, false, true, false, true] (Try.f4.body.getD .skip)) (Exit.then K' Q') ⟨#[f0, f1, f2, f3, f4, .pointer (some ⟨n, 0, none⟩), f6, u7, u8, f9, .pointer (some ⟨g8, 0, none⟩), f11, f12, f13, f14, f15, f16, f17, f18, f19, f20, f21, f22, f23, f24, f25, f26, f27, f28, f29, f30, f31, f32, f33, f34, f35, f36, f37, f38, f39, f40, f41, f42, f43, f44, f45, f46, f47, f48, f49, .int .i64 x.kind, f51, f52, f53, f54, f55, f56, f57, f58, f59, f60, f61, f62, f63, f64, f65, f66, f67, f68, f69, f70, f71, f72, f73, f74, f75, f76, f77, f78, f79, f80, f81, f82, f83, f84, f85, f86, f87, f88, f89, f90, f91, f92, f93, f94, f95, f96, f97, f98, f99, f100, f101, f102, f103, f104, f105, f106, f107, f108, f109, f110, f111, f112, f113, f114, f115, f116, f117, f118, f119, f120, f121, f122, f123, f124, f125, f126, f127, f128, f129, f130, f131, f132, f133, f134, f135, f136, f137, f138, f139, f140, f141, f142, f143, f144, f145, f146, f147, f148, f149, f150, f151, f152, f153, f154, f155, f156, f157, f158, f159, f160, f161, f162, f163, f164, f165, f166, f167, f168, f169, f170, f171, f172, f173, f174, f175, f176, f177, f178, f179, f180, f181, f182, f183, f184, f185, f186, f187, f188, f189, f190, f191, f192, f193, f194, f195, f196, f197, f198, f199, f200, f201, f202, undef, undef, undef, undef, undef, undef, undef, undef, undef, undef, undef, undef, undef, undef, undef, undef, undef, undef, undef, undef], []⟩ w5 := by
  have HINV := Lib.hid hinv
  have HIK := Lib.hid hik
  have HKL := Lib.hid hkl
  have HC5 := Lib.hid hc5
  have H5 := Lib.hid h5
  have HBX := Lib.hid hbx
  have HML := Lib.hid hml
  have HG8 := Lib.hid hg8
  have HLE := Lib.hid hle
  have HKK := Lib.hid hK
  have HAI := Lib.hid x.a.h
  have dk : w5.cell? ⟨g8, 0, none⟩ = some (.int .i64 x.kind) := (act_cells HBX.out).1
  have da : w5.cell? ⟨g8, 1, none⟩ = some (.int .i64 x.a.n) := (act_cells HBX.out).2.1
  have hk0 : (0 : Int) ≤ (k : Int) := by omega
  clear hinv hik hc5 h5 hbx hml hg8 hle hK
  have k1 : ¬ x.kind = 1 := by omega
  have n1 : (x.kind == 1) = false := beq_f k1
  have k4 : ¬ x.kind = 4 := by omega
  have n4 : (x.kind == 4) = false := beq_f k4
  have k2 : ¬ x.kind = 2 := by omega
  have n2 : (x.kind == 2) = false := beq_f k2
  have k3 : ¬ x.kind = 3 := by omega
  have n3 : (x.kind == 3) = false := beq_f k3
  have k5 : ¬ x.kind = 5 := by omega
  have n5 : (x.kind == 5) = false := beq_f k5
  have k6 : ¬ x.kind = 6 := by omega
  have n6 : (x.kind == 6) = false := beq_f k6
  clear hkd
  dsimp only [subC, Try.f4, Option.getD]
  clear k1 k4 k2 k3 k5 k6
  have HI6 : Hid (InvS l s (k + 1)) := Lib.hid HINV.out.next
  go_wp2_with fail
  apply HKK.out
  exact ⟨_, _, _, _, HI6.out, HIK.out, HC5.out⟩
end Go.Proofs.Ytmcdmcnbnnfhnaa.netConserves
