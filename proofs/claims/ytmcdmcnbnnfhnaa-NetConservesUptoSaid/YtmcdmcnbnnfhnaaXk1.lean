/-
  NetConserves, what one act does: kind 1. No condition of its own.
-/
import Derived.Test.YtmcdmcnbnnfhnaaXc
namespace Go.Proofs.Ytmcdmcnbnnfhnaa.netConserves
open Go.ChangeShapes Go.WideShapes Go.ChangeAt Go.RowKit Go.Proofs.Ytmcdmcnbnnfhnaa
set_option maxRecDepth 100000
set_option maxHeartbeats 16000000 in
theorem kind1 {W w5 : World} {l : Int} {k n b g8 : Nat} {gn u7 u8 : Value} {s : NetS} {L : List MsgM} {G : List Bool} {x : ActM} {mc : List Value} {gvv : Value} (hinv : InvS l s k) (hik : InvK s L G) (hkl : k ≤ 1048576) (hc5 : CW W w5 n b gn u7 u8 s L G) (h5 : CellsD (fun k => k < W.heap.size) w5 mc (msgD x.m) ∧ ReadsD (fun k => k < W.heap.size) w5 gvv (groupsD x.gs))
    (hbx : Blk w5 g8 54 (.int .i64 x.kind :: .int .i64 x.a.n :: .int .i64 x.b.n :: (mc ++ [gvv])).toArray) (hml : mc.length = 15) (hg8 : W.heap.size ≤ g8 ∧ u7.ownBlock ≠ some g8 ∧ u8.ownBlock ≠ some g8 ∧ g8 ≠ n ∧ g8 ≠ b) (hle : W.heap.size ≤ n ∧ W.heap.size ≤ b) (hkd : x.kind = 1)
    {f0 f1 f2 f3 f4 f6 f9 f11 f12 f13 f14 f15 f16 f17 f18 f19 f20 f21 f22 f23 f24 f25 f26 f27 f28 f29 f30 f31 f32 f33 f34 f35 f36 f37 f38 f39 f40 f41 f42 f43 f44 f45 f46 f47 f48 f49 f51 f52 f53 f54 f55 f56 f57 f58 f59 f60 f61 f62 f63 f64 f65 f66 f67 f68 f69 f70 f71 f72 f73 f74 f75 f76 f77 f78 f79 f80 f81 f82 f83 f84 f85 f86 f87 f88 f89 f90 f91 f92 f93 f94 f95 f96 f97 f98 f99 f100 f101 f102 f103 f104 f105 f106 f107 f108 f109 f110 f111 f112 f113 f114 f115 f116 f117 f118 f119 f120 f121 f122 f123 f124 f125 f126 f127 f128 f129 f130 f131 f132 f133 f134 f135 f136 f137 f138 f139 f140 f141 f142 f143 f144 f145 f146 f147 f148 f149 f150 f151 f152 f153 f154 f155 f156 f157 f158 f159 f160 f161 f162 f163 f164 f165 f166 f167 f168 f169 f170 f171 f172 f173 f174 f175 f176 f177 f178 f179 f180 f181 f182 f183 f184 f185 f186 f187 f188 f189 f190 f191 f192 f193 f194 f195 f196 f197 f198 f199 f200 f201 f202 : Value} {K' : Act → World → Prop} {Q' : Exit → Act → World → Prop}
    (hK : ∀ (kv' gv' : Value) (w' : World) (z11 z12 z13 z14 z15 z35 z36 z37 z38 z39 z40 z41 z42 z43 z44 z45 z46 z47 z48 z49 z50 z51 z52 z53 z54 z55 z56 z57 z58 z59 z60 z61 z62 z63 z64 z65 z66 z67 z68 z69 z70 z71 z72 z73 z74 z75 z76 z77 z78 z79 z80 z81 z82 z83 z84 z85 z86 z87 z88 z89 z90 z91 z92 z93 z94 z95 z96 z97 z98 z99 z100 z101 z102 z103 z104 z105 z106 z107 z108 z109 z110 z111 z112 z113 z114 z115 z116 z117 z118 z119 z120 z121 z122 z123 z124 z125 z126 z127 z128 z129 z130 z131 z132 z133 z134 z135 z136 z137 z138 z139 z140 z141 z142 z143 z144 z145 z146 z147 z148 z149 z150 z151 z152 z153 z154 z155 z156 z157 z158 z159 z160 z161 z162 z163 z164 z165 z166 z167 z168 z169 z170 z171 z172 z173 z174 z175 z176 z177 z178 z179 z180 z181 z182 z183 z184 z185 z186 z187 z188 z189 z190 z191 z192 z193 z194 z195 z196 z197 z198 z199 z200 z201 z202 : Value), (∃ s L G gn, InvS l s (k + 1) ∧ InvK s L G ∧ CW W w' n b gn kv' gv' s L G) → K' ⟨#[f0, f1, f2, f3, f4, .pointer (some ⟨n, 0, none⟩), f6, kv', gv', f9, .pointer (some ⟨g8, 0, none⟩), z11, z12, z13, z14, z15, f16, f17, f18, f19, f20, f21, f22, f23, f24, f25, f26, f27, f28, f29, f30, f31, f32, f33, f34, z35, z36, z37, z38, z39, z40, z41, z42, z43, z44, z45, z46, z47, z48, z49, z50, z51, z52, z53, z54, z55, z56, z57, z58, z59, z60, z61, z62, z63, z64, z65, z66, z67, z68, z69, z70, z71, z72, z73, z74, z75, z76, z77, z78, z79, z80, z81, z82, z83, z84, z85, z86, z87, z88, z89, z90, z91, z92, z93, z94, z95, z96, z97, z98, z99, z100, z101, z102, z103, z104, z105, z106, z107, z108, z109, z110, z111, z112, z113, z114, z115, z116, z117, z118, z119, z120, z121, z122, z123, z124, z125, z126, z127, z128, z129, z130, z131, z132, z133, z134, z135, z136, z137, z138, z139, z140, z141, z142, z143, z144, z145, z146, z147, z148, z149, z150, z151, z152, z153, z154, z155, z156, z157, z158, z159, z160, z161, z162, z163, z164, z165, z166, z167, z168, z169, z170, z171, z172, z173, z174, z175, z176, z177, z178, z179, z180, z181, z182, z183, z184, z185, z186, z187, z188, z189, z190, z191, z192, z193, z194, z195, z196, z197, z198, z199, z200, z201, z202, undef, undef, undef, undef, undef, undef, undef, undef, undef, undef, undef, undef, undef, undef, undef, undef, undef, undef, undef, undef], []⟩ w') :
    Code.wp Try.prog (subC [true, true, true, true, true, true, false, true, false, false, true, false, false, true, false, true] (Try.f4.body.getD .skip)) (Exit.then K' Q') ⟨#[f0, f1, f2, f3, f4, .pointer (some ⟨n, 0, none⟩), f6, u7, u8, f9, .pointer (some ⟨g8, 0, none⟩), f11, f12, f13, f14, f15, f16, f17, f18, f19, f20, f21, f22, f23, f24, f25, f26, f27, f28, f29, f30, f31, f32, f33, f34, f35, f36, f37, f38, f39, f40, f41, f42, f43, f44, f45, f46, f47, f48, f49, .int .i64 x.kind, f51, f52, f53, f54, f55, f56, f57, f58, f59, f60, f61, f62, f63, f64, f65, f66, f67, f68, f69, f70, f71, f72, f73, f74, f75, f76, f77, f78, f79, f80, f81, f82, f83, f84, f85, f86, f87, f88, f89, f90, f91, f92, f93, f94, f95, f96, f97, f98, f99, f100, f101, f102, f103, f104, f105, f106, f107, f108, f109, f110, f111, f112, f113, f114, f115, f116, f117, f118, f119, f120, f121, f122, f123, f124, f125, f126, f127, f128, f129, f130, f131, f132, f133, f134, f135, f136, f137, f138, f139, f140, f141, f142, f143, f144, f145, f146, f147, f148, f149, f150, f151, f152, f153, f154, f155, f156, f157, f158, f159, f160, f161, f162, f163, f164, f165, f166, f167, f168, f169, f170, f171, f172, f173, f174, f175, f176, f177, f178, f179, f180, f181, f182, f183, f184, f185, f186, f187, f188, f189, f190, f191, f192, f193, f194, f195, f196, f197, f198, f199, f200, f201, f202, undef, undef, undef, undef, undef, undef, undef, undef, undef, undef, undef, undef, undef, undef, undef, undef, undef, undef, undef, undef], []⟩ w5 := by
  have HINV := Lib.hid hinv
  have HIK := Lib.hid hik
  have HKL := Lib.hid hkl
  have HC5 := Lib.hid hc5
  have H5 := Lib.hid h5
  have HBX := Lib.hid hbx
  have HML := Lib.hid hml
  have HG8 := Lib.hid hg8
  have HLE := Lib.hid hle
  have HKK := Lib.hid hK
  have HAI := Lib.hid x.a.h
  have dk : w5.cell? ⟨g8, 0, none⟩ = some (.int .i64 x.kind) := (act_cells HBX.out).1
  have da : w5.cell? ⟨g8, 1, none⟩ = some (.int .i64 x.a.n) := (act_cells HBX.out).2.1
  have hk0 : (0 : Int) ≤ (k : Int) := by omega
  clear hinv hik hc5 h5 hbx hml hg8 hle hK
  have k1 : x.kind = 1 := hkd
  have n1 : (x.kind == 1) = true := beq_t k1
  clear hkd
  dsimp only [subC, Try.f4, Option.getD]
  clear k1 
  have HS : Hid (Blk (w5.alloc (.cells zeroC.toArray 39)) w5.heap.size 39 zeroC.toArray) := Lib.hid (Blk.new w5 _ _)
  have HONE := Lib.hid (CellsD.all H5.out.1)
  go_upto_region 17 with (first | (refine wpList_load_mid rfl 39 (.tmp 54) rfl g8 3 rfl mc _ (act_range HBX.out) Try.underlying39 rfl (by rw [HML.out]; kernel_rfl) ?_) | (refine wpList_store_msg rfl (.tmp 13) (.tmp 55) rfl w5.heap.size zeroC.toArray mc rfl rfl HS.out rfl HML.out HONE.out ?_; intro w6 hB6 hk6))
  have H56 : Hid (Below w5.heap.size w5 w6) := Lib.hid (((Kept.of ((Below.refl w5.heap.size w5).alloc (Nat.le_refl _) (.cells zeroC.toArray 39)) : Kept (fun b => b = w5.heap.size) w5 _).trans hk6).below (Nat.le_refl _) fun k hk e => by omega)
  have HC6 : Hid (CW W w6 n b gn u7 u8 s L G) := Lib.hid (HC5.out.on H56.out)
  have H6 : Hid (CellsD (fun k => k < W.heap.size) w6 mc (msgD x.m)) := Lib.hid (H5.out.1.on H56.out)
  have HB6 := Lib.hid hB6
  have HX6 := Lib.hid (HBX.out.on H56.out)
  have HGM : Hid (W.heap.size ≤ w5.heap.size ∧ w5.heap.size ≠ n ∧ w5.heap.size ≠ b) := Lib.hid ⟨HC5.out.bel.size, by have := HC5.out.net.box.lt; omega, by have := HC5.out.net.blt; omega⟩
  have HNX : Hid (NetAt (fun k => (W.heap.size ≤ k ∧ u7.ownBlock ≠ some k ∧ u8.ownBlock ≠ some k) ∧ k ≠ w5.heap.size) n b gn s w6) := Lib.hid ((HC5.out.net.mono fun k hp hlt => ⟨hp, by omega⟩).on H56.out)
  have HGS : Hid (w5.heap.size < w6.heap.size) := Lib.hid hB6.lt
  have HGP : Hid (W.heap.size ≤ w5.heap.size ∧ u7.ownBlock ≠ some w5.heap.size ∧ u8.ownBlock ≠ some w5.heap.size) := Lib.hid (HC5.out.new _ (Nat.le_refl _))
  clear hB6 hk6 HS HONE dk da H56
  generalize w5.heap.size = gm at *
  have dk : w6.cell? ⟨g8, 0, none⟩ = some (.int .i64 x.kind) := (act_cells HX6.out).1
  have da : w6.cell? ⟨g8, 1, none⟩ = some (.int .i64 x.a.n) := (act_cells HX6.out).2.1
  have HCL := Lib.hid (send_any x.m mc HC6.out.net (H6.out.mono fun k hk _ => by have := HLE.out; omega) (fun k hk => HC6.out.new k hk) HINV.out.l0 (by have := HINV.out.l1; have := HKL.out; omega) HINV.out.a0 (by have := HINV.out.a1; have := HKL.out; omega) (by have := HINV.out.cnt; have := HKL.out; omega) HINV.out.free)
  rcases send_case s x.m with ⟨ra, re, hr, hne⟩ | ⟨s', hr, hl1, hl2⟩
  · rw [hr] at HCL
    have ne : (re == 0) = false := beq_f hne
    clear hr hne
    go_wp2_with (refine wpList_load_mid rfl 39 (.tmp 61) rfl g8 3 rfl mc _ (act_range HX6.out) Try.underlying39 rfl (by rw [HML.out]; kernel_rfl) ?_)
    refine HCL.out.mono ?_
    rintro e w8 ⟨rfl, hn8, hk8⟩
    have HC8 : Hid (CW W w8 n b gn u7 u8 s L G) := Lib.hid (HC6.out.call hn8 hk8 fun k hk => hk)
    have HI8 : Hid (InvS l s (k + 1)) := Lib.hid HINV.out.next
    clear hn8 hk8 HCL dk da
    go_wp2_with fail
    apply HKK.out
    exact ⟨_, _, _, _, HI8.out, HIK.out, HC8.out⟩
  · rw [hr] at HCL
    have HI8 : Hid (InvS l s' (k + 1)) := Lib.hid (by have h := HINV.out.send x.m; rw [hr] at h; exact h)
    have HK8 : Hid (InvK s' (L ++ [x.m]) (G ++ [false])) := Lib.hid (HIK.out.put HINV.out.l0 hl1 hl2)
    have HLN : Hid (s.last + 1 = (L.length : Int) ∧ 0 < L.length ∧ L.length ≤ 1048578 ∧ G.length = L.length) := Lib.hid ⟨by have := HIK.out.len; omega, by have := HIK.out.len; have := HINV.out.l0; omega, by have := HIK.out.len; have := HINV.out.l1; have := HKL.out; omega, HIK.out.gl⟩
    clear hr hl1 hl2
    go_wp2_with (refine wpList_load_mid rfl 39 (.tmp 61) rfl g8 3 rfl mc _ (act_range HX6.out) Try.underlying39 rfl (by rw [HML.out]; kernel_rfl) ?_)
    refine HCL.out.mono ?_
    rintro e w8 ⟨rfl, hn8, hk8⟩
    have HC8 : Hid (CW W w8 n b gn u7 u8 s' L G) := Lib.hid (HC6.out.call hn8 hk8 fun k hk => hk)
    have HB8 : Hid (Blk w8 gm 39 mc.toArray) := Lib.hid (hk8.blk HB6.out (by have := HGM.out; omega))
    have HM8 : Hid (CellsD (fun k => k < W.heap.size) w8 mc (msgD x.m)) := Lib.hid (cells_keep H6.out hk8.size fun q hq hlt => hk8.block q hlt (by have := HLE.out; omega))
    clear hn8 hk8 HCL dk da
    obtain ⟨kc, hkc⟩ := HC8.out.kl.slc
    subst hkc
    have eq1 := neq_f HLN.out.1
    have eq2 := beq_t HLN.out.1
    have hl3 := HLN.out.2.2.1
    have HC9 : Hid (CW W (w8.alloc (.cells mc.toArray 39)) n b gn (.slice kc.1 L.length kc.2) u8 s' L G) := Lib.hid (HC8.out.on ((Below.refl _ _).alloc (Nat.le_refl _) _))
    have HM9 : Hid (Blk (w8.alloc (.cells mc.toArray 39)) w8.heap.size 39 mc.toArray ∧ CellsD (fun k => k < W.heap.size) (w8.alloc (.cells mc.toArray 39)) mc (msgD x.m)) := Lib.hid ⟨Blk.new w8 _ _, HM8.out.on ((Below.refl _ _).alloc (Nat.le_refl _) _)⟩
    go_upto_region 28 with (first | (refine wpList_load_msg rfl (.tmp 13) rfl gm mc rfl HB8.out HML.out ?_) | (refine wpList_build_msg rfl (.tmp 104) rfl mc rfl HML.out ?_) | (at_builtin; refine append_msg rfl (.tmp 103) (.tmp 105) rfl HC9.out rfl w8.heap.size rfl mc x.m HM9.out.1 HM9.out.2 HLN.out.2.1 (by have := HLN.out; omega) ?_; intro v9 w9 hc9))
    have HC10 : Hid (CW W (w9.alloc (.cells #[.bool false] 4)) n b gn v9 u8 s' (L ++ [x.m]) G) := Lib.hid (hc9.on ((Below.refl _ _).alloc (Nat.le_refl _) _))
    clear hc9 HC9 HM9 eq1 eq2 hl3
    go_wp2_with (at_builtin; refine append_mark rfl (.tmp 107) (.tmp 108) rfl HC10.out rfl w9.heap.size rfl false ((Blk.new w9 _ _).cell 0) (by have := HLN.out; omega) (by have := HLN.out; omega) ?_; intro v10 w10 hc10)
    have HC11 : Hid (CW W w10 n b gn v9 v10 s' (L ++ [x.m]) (G ++ [false])) := Lib.hid hc10
    clear hc10 HC10 HLN
    generalize L ++ [x.m] = L2 at *
    generalize G ++ [false] = G2 at *
    go_wp2_with fail
    apply HKK.out
    exact ⟨_, _, _, _, HI8.out, HK8.out, HC11.out⟩
end Go.Proofs.Ytmcdmcnbnnfhnaa.netConserves
