/-
  NetConserves, what one act does: kind 3. No condition of its own.
-/
import Derived.Test.YtmcdmcnbnnfhnaaXc
namespace Go.Proofs.Ytmcdmcnbnnfhnaa.netConserves
open Go.ChangeShapes Go.WideShapes Go.ChangeAt Go.RowKit Go.Proofs.Ytmcdmcnbnnfhnaa
set_option maxRecDepth 100000
set_option maxHeartbeats 16000000 in
theorem kind3 {W w5 : World} {l : Int} {k n b g8 : Nat} {gn u7 u8 : Value} {s : NetS} {L : List MsgM} {G : List Bool} {x : ActM} {mc : List Value} {gvv : Value} (hinv : InvS l s k) (hik : InvK s L G) (hkl : k ≤ 1048576) (hc5 : CW W w5 n b gn u7 u8 s L G) (h5 : CellsD (fun k => k < W.heap.size) w5 mc (msgD x.m) ∧ ReadsD (fun k => k < W.heap.size) w5 gvv (groupsD x.gs))
    (hbx : Blk w5 g8 54 (.int .i64 x.kind :: .int .i64 x.a.n :: .int .i64 x.b.n :: (mc ++ [gvv])).toArray) (hml : mc.length = 15) (hg8 : W.heap.size ≤ g8 ∧ u7.ownBlock ≠ some g8 ∧ u8.ownBlock ≠ some g8 ∧ g8 ≠ n ∧ g8 ≠ b) (hle : W.heap.size ≤ n ∧ W.heap.size ≤ b) (hkd : x.kind = 3)
    {f0 f1 f2 f3 f4 f6 f9 f11 f12 f13 f14 f15 f16 f17 f18 f19 f20 f21 f22 f23 f24 f25 f26 f27 f28 f29 f30 f31 f32 f33 f34 f35 f36 f37 f38 f39 f40 f41 f42 f43 f44 f45 f46 f47 f48 f49 f51 f52 f53 f54 f55 f56 f57 f58 f59 f60 f61 f62 f63 f64 f65 f66 f67 f68 f69 f70 f71 f72 f73 f74 f75 f76 f77 f78 f79 f80 f81 f82 f83 f84 f85 f86 f87 f88 f89 f90 f91 f92 f93 f94 f95 f96 f97 f98 f99 f100 f101 f102 f103 f104 f105 f106 f107 f108 f109 f110 f111 f112 f113 f114 f115 f116 f117 f118 f119 f120 f121 f122 f123 f124 f125 f126 f127 f128 f129 f130 f131 f132 f133 f134 f135 f136 f137 f138 f139 f140 f141 f142 f143 f144 f145 f146 f147 f148 f149 f150 f151 f152 f153 f154 f155 f156 f157 f158 f159 f160 f161 f162 f163 f164 f165 f166 f167 f168 f169 f170 f171 f172 f173 f174 f175 f176 f177 f178 f179 f180 f181 f182 f183 f184 f185 f186 f187 f188 f189 f190 f191 f192 f193 f194 f195 f196 f197 f198 f199 f200 f201 f202 : Value} {K' : Act → World → Prop} {Q' : Exit → Act → World → Prop}
    (hK : ∀ (kv' gv' : Value) (w' : World) (z11 z12 z13 z14 z15 z35 z36 z37 z38 z39 z40 z41 z42 z43 z44 z45 z46 z47 z48 z49 z50 z51 z52 z53 z54 z55 z56 z57 z58 z59 z60 z61 z62 z63 z64 z65 z66 z67 z68 z69 z70 z71 z72 z73 z74 z75 z76 z77 z78 z79 z80 z81 z82 z83 z84 z85 z86 z87 z88 z89 z90 z91 z92 z93 z94 z95 z96 z97 z98 z99 z100 z101 z102 z103 z104 z105 z106 z107 z108 z109 z110 z111 z112 z113 z114 z115 z116 z117 z118 z119 z120 z121 z122 z123 z124 z125 z126 z127 z128 z129 z130 z131 z132 z133 z134 z135 z136 z137 z138 z139 z140 z141 z142 z143 z144 z145 z146 z147 z148 z149 z150 z151 z152 z153 z154 z155 z156 z157 z158 z159 z160 z161 z162 z163 z164 z165 z166 z167 z168 z169 z170 z171 z172 z173 z174 z175 z176 z177 z178 z179 z180 z181 z182 z183 z184 z185 z186 z187 z188 z189 z190 z191 z192 z193 z194 z195 z196 z197 z198 z199 z200 z201 z202 : Value), (∃ s L G gn, InvS l s (k + 1) ∧ InvK s L G ∧ CW W w' n b gn kv' gv' s L G) → K' ⟨#[f0, f1, f2, f3, f4, .pointer (some ⟨n, 0, none⟩), f6, kv', gv', f9, .pointer (some ⟨g8, 0, none⟩), z11, z12, z13, z14, z15, f16, f17, f18, f19, f20, f21, f22, f23, f24, f25, f26, f27, f28, f29, f30, f31, f32, f33, f34, z35, z36, z37, z38, z39, z40, z41, z42, z43, z44, z45, z46, z47, z48, z49, z50, z51, z52, z53, z54, z55, z56, z57, z58, z59, z60, z61, z62, z63, z64, z65, z66, z67, z68, z69, z70, z71, z72, z73, z74, z75, z76, z77, z78, z79, z80, z81, z82, z83, z84, z85, z86, z87, z88, z89, z90, z91, z92, z93, z94, z95, z96, z97, z98, z99, z100, z101, z102, z103, z104, z105, z106, z107, z108, z109, z110, z111, z112, z113, z114, z115, z116, z117, z118, z119, z120, z121, z122, z123, z124, z125, z126, z127, z128, z129, z130, z131, z132, z133, z134, z135, z136, z137, z138, z139, z140, z141, z142, z143, z144, z145, z146, z147, z148, z149, z150, z151, z152, z153, z154, z155, z156, z157, z158, z159, z160, z161, z162, z163, z164, z165, z166, z167, z168, z169, z170, z171, z172, z173, z174, z175, z176, z177, z178, z179, z180, z181, z182, z183, z184, z185, z186, z187, z188, z189, z190, z191, z192, z193, z194, z195, z196, z197, z198, z199, z200, z201, z202, undef, undef, undef, undef, undef, undef, undef, undef, undef, undef, undef, undef, undef, undef, undef, undef, undef, undef, undef, undef], []⟩ w') :
    Code.wp Try.prog (subC [true, true, true, true, true, true, false, true, false, false, true, false, false, true, false, true] (Try.f4.body.getD .skip)) (Exit.then K' Q') ⟨#[f0, f1, f2, f3, f4, .pointer (some ⟨n, 0, none⟩), f6, u7, u8, f9, .pointer (some ⟨g8, 0, none⟩), f11, f12, f13, f14, f15, f16, f17, f18, f19, f20, f21, f22, f23, f24, f25, f26, f27, f28, f29, f30, f31, f32, f33, f34, f35, f36, f37, f38, f39, f40, f41, f42, f43, f44, f45, f46, f47, f48, f49, .int .i64 x.kind, f51, f52, f53, f54, f55, f56, f57, f58, f59, f60, f61, f62, f63, f64, f65, f66, f67, f68, f69, f70, f71, f72, f73, f74, f75, f76, f77, f78, f79, f80, f81, f82, f83, f84, f85, f86, f87, f88, f89, f90, f91, f92, f93, f94, f95, f96, f97, f98, f99, f100, f101, f102, f103, f104, f105, f106, f107, f108, f109, f110, f111, f112, f113, f114, f115, f116, f117, f118, f119, f120, f121, f122, f123, f124, f125, f126, f127, f128, f129, f130, f131, f132, f133, f134, f135, f136, f137, f138, f139, f140, f141, f142, f143, f144, f145, f146, f147, f148, f149, f150, f151, f152, f153, f154, f155, f156, f157, f158, f159, f160, f161, f162, f163, f164, f165, f166, f167, f168, f169, f170, f171, f172, f173, f174, f175, f176, f177, f178, f179, f180, f181, f182, f183, f184, f185, f186, f187, f188, f189, f190, f191, f192, f193, f194, f195, f196, f197, f198, f199, f200, f201, f202, undef, undef, undef, undef, undef, undef, undef, undef, undef, undef, undef, undef, undef, undef, undef, undef, undef, undef, undef, undef], []⟩ w5 := by
  have HINV := Lib.hid hinv
  have HIK := Lib.hid hik
  have HKL := Lib.hid hkl
  have HC5 := Lib.hid hc5
  have H5 := Lib.hid h5
  have HBX := Lib.hid hbx
  have HML := Lib.hid hml
  have HG8 := Lib.hid hg8
  have HLE := Lib.hid hle
  have HKK := Lib.hid hK
  have HAI := Lib.hid x.a.h
  have dk : w5.cell? ⟨g8, 0, none⟩ = some (.int .i64 x.kind) := (act_cells HBX.out).1
  have da : w5.cell? ⟨g8, 1, none⟩ = some (.int .i64 x.a.n) := (act_cells HBX.out).2.1
  have hk0 : (0 : Int) ≤ (k : Int) := by omega
  clear hinv hik hc5 h5 hbx hml hg8 hle hK
  have k1 : ¬ x.kind = 1 := by omega
  have n1 : (x.kind == 1) = false := beq_f k1
  have k4 : ¬ x.kind = 4 := by omega
  have n4 : (x.kind == 4) = false := beq_f k4
  have k2 : ¬ x.kind = 2 := by omega
  have n2 : (x.kind == 2) = false := beq_f k2
  have k3 : x.kind = 3 := hkd
  have n3 : (x.kind == 3) = true := beq_t k3
  clear hkd
  dsimp only [subC, Try.f4, Option.getD]
  clear k1 k4 k2 k3
  have HS : Hid (Blk (w5.alloc (.cells zeroC.toArray 39)) w5.heap.size 39 zeroC.toArray) := Lib.hid (Blk.new w5 _ _)
  have HZ15 : Hid (zeroC.length = 15) := Lib.hid rfl
  have HONE := Lib.hid (CellsD.all (zero_cells (fun _ => True) w5))
  go_upto_region 32 with ((refine wpList_store_msg rfl (.tmp 14) (.tmp 113) rfl w5.heap.size zeroC.toArray zeroC rfl rfl HS.out rfl HZ15.out HONE.out ?_; intro w6 hB6 hk6))
  have H56 : Hid (Below w5.heap.size w5 w6) := Lib.hid (((Kept.of ((Below.refl w5.heap.size w5).alloc (Nat.le_refl _) (.cells zeroC.toArray 39)) : Kept (fun b => b = w5.heap.size) w5 _).trans hk6).below (Nat.le_refl _) fun k hk e => by omega)
  have HC6 : Hid (CW W w6 n b gn u7 u8 s L G) := Lib.hid (HC5.out.on H56.out)
  have HB6 := Lib.hid hB6
  have HX6 := Lib.hid (HBX.out.on H56.out)
  have HGM : Hid (W.heap.size ≤ w5.heap.size ∧ w5.heap.size ≠ n ∧ w5.heap.size ≠ b) := Lib.hid ⟨HC5.out.bel.size, by have := HC5.out.net.box.lt; omega, by have := HC5.out.net.blt; omega⟩
  have HNX : Hid (NetAt (fun k => (W.heap.size ≤ k ∧ u7.ownBlock ≠ some k ∧ u8.ownBlock ≠ some k) ∧ k ≠ w5.heap.size) n b gn s w6) := Lib.hid ((HC5.out.net.mono fun k hp hlt => ⟨hp, by omega⟩).on H56.out)
  have HG85 : Hid (g8 ≠ w5.heap.size) := Lib.hid (by have := HBX.out.lt; omega)
  have HGP : Hid (W.heap.size ≤ w5.heap.size ∧ u7.ownBlock ≠ some w5.heap.size ∧ u8.ownBlock ≠ some w5.heap.size) := Lib.hid (HC5.out.new _ (Nat.le_refl _))
  clear hB6 hk6 HS HONE dk da H56 HC5 HBX H5
  generalize w5.heap.size = gm at *
  have dk : w6.cell? ⟨g8, 0, none⟩ = some (.int .i64 x.kind) := (act_cells HX6.out).1
  have da : w6.cell? ⟨g8, 1, none⟩ = some (.int .i64 x.a.n) := (act_cells HX6.out).2.1
  have HCL := Lib.hid (drop_any x.a.n HAI.out HNX.out HINV.out.d0 (by have := HINV.out.d1; have := HKL.out; omega))
  have HPOS := Lib.hid (fun m hm => HC6.out.net.pos HAI.out (m := m) hm)
  have HDI : Hid (InvS l (dropR s x.a.n).2 (k + 1)) := Lib.hid (HINV.out.drop x.a.n HPOS.out)
  rcases drop_case s x.a.n with ⟨re, hr, hne⟩ | ⟨m, s', hms, hr, hl1, hl2⟩
  · rw [hr] at HCL HDI
    have ne : (re == 0) = false := beq_f hne
    clear hr hne
    go_wp2_with fail
    refine HCL.out.mono ?_
    rintro e w9 ⟨rfl, hn9, hk9⟩
    have HB9 : Hid (Blk w9 gm 39 zeroC.toArray) := Lib.hid (hk9.blk HB6.out (by have := HGM.out; omega))
    have HX9 := Lib.hid (hk9.blk HX6.out (by have := HG8.out; omega))
    have HC9 : Hid (CW W w9 n b gn u7 u8 s L G) := Lib.hid (HC6.out.call (hn9.mono fun k hk _ => hk.1) hk9 fun k hk => hk)
    clear hn9 hk9 HCL dk da
    go_wp2_with fail
    apply HKK.out
    exact ⟨_, _, _, _, HDI.out, HIK.out, HC9.out⟩
  · rw [hr] at HCL HDI
    obtain ⟨q, hxq, h1q, h2q, hGq, hLq⟩ := HIK.out.of_some HINV.out hms
    have HLN : Hid (0 < L.length ∧ L.length ≤ 1048578 ∧ G.length = L.length) := Lib.hid ⟨by have := HIK.out.len; have := HINV.out.l0; omega, by have := HIK.out.len; have := HINV.out.l1; have := HKL.out; omega, HIK.out.gl⟩
    have HQL : Hid (1 ≤ q ∧ q < L.length ∧ q < G.length ∧ G[q]? = some false ∧ L[q]? = some m) := Lib.hid ⟨h1q, h2q, by have := HLN.out; omega, hGq, hLq⟩
    have HK9 : Hid (InvK s' L (G.set q true)) := Lib.hid (HIK.out.del h1q HQL.out.2.2.1 hl1 (by rw [hl2, hxq]))
    have HXQ := Lib.hid hxq
    rw [hxq] at HCL da
    clear hr hl1 hl2 hms hxq h1q h2q hGq hLq
    go_wp2_with fail
    refine HCL.out.mono ?_
    rintro e w9 ⟨rfl, hn9, hk9⟩
    have HB9 : Hid (Blk w9 gm 39 zeroC.toArray) := Lib.hid (hk9.blk HB6.out (by have := HGM.out; omega))
    have HX9 := Lib.hid (hk9.blk HX6.out (by have := HG8.out; omega))
    have HC9 : Hid (CW W w9 n b gn u7 u8 s' L G) := Lib.hid (HC6.out.call (hn9.mono fun k hk _ => hk.1) hk9 fun k hk => hk)
    clear hn9 hk9 HCL dk da
    obtain ⟨kg, kcap, ks, hkv, -, hkr, hkm⟩ := HC9.out.kl.item HQL.out.2.1
    obtain ⟨gg, gcap, hgv, -, hgc⟩ := HC9.out.gl.item HQL.out.2.2.1
    have HFZ := Lib.hid (HC9.out.gl.free (g := gg) (by rw [hgv]; rfl))
    subst hkv hgv
    have HDD : Hid (w9.cell? ⟨gg, q, none⟩ = some (.bool false)) := Lib.hid (by
      rw [hgc]
      have h := HQL.out.2.2.2.1
      rw [List.getElem?_eq_getElem HQL.out.2.2.1] at h
      injection h with h
      rw [h])
    have HKM : Hid (w9.rangeAt kg (q * 15) ks ∧ CellsD (fun k => k < W.heap.size) w9 ks (msgD m) ∧ ks.length = 15) := Lib.hid ⟨hkr, by
      have h := HQL.out.2.2.2.2
      rw [List.getElem?_eq_getElem HQL.out.2.1] at h
      injection h with h
      rw [← h]
      exact hkm, msg_len hkm⟩
    have HKG : Hid (kg < w9.heap.size) := Lib.hid (HC9.out.kl.own (g := kg) rfl).2
    clear hkr hkm hgc
    have HDA : Hid (w9.cell? ⟨g8, 1, none⟩ = some (.int .i64 q) ∧ w9.cell? ⟨g8, 0, none⟩ = some (.int .i64 x.kind) ∧ g8 < w9.heap.size) := Lib.hid ⟨by rw [← HXQ.out]; exact (act_cells HX9.out).2.1, (act_cells HX9.out).1, HX9.out.lt⟩
    have hq0 : (0 : Int) ≤ (q : Int) := by omega
    have hq1 : (1 : Int) ≤ (q : Int) := by have := HQL.out.1; omega
    have hq2 : (q : Int) < (L.length : Int) := by have := HQL.out.2.1; omega
    have hq3 : (q : Int) < (G.length : Int) := by have := HQL.out.2.2.1; omega
    have c1 : decide ((q : Int) < 1) = false := decide_eq_false (by omega)
    have c2 : decide ((L.length : Int) ≤ (q : Int)) = false := decide_eq_false (by omega)
    have c3 : decide (L.length ≤ q) = false := decide_eq_false (by have := HQL.out.2.1; omega)
    have hl3 := HLN.out.2.1
    go_wp2_with fail
    refine region_left [.is (.pointer (some ⟨g8, 1, none⟩)), .is (.int .i64 q), .is (.bool false), .is (.bool false), .is (.pointer (some ⟨g8, 1, none⟩)), .is (.int .i64 q), .is (.slice (some ⟨kg, 0, none⟩) L.length kcap), .is (.int .i64 (L.length : Nat)), .is (.bool false), .is (.bool false), .is (.bool false), .is (.slice (some ⟨gg, 0, none⟩) G.length gcap), .is (.pointer (some ⟨g8, 1, none⟩)), .is (.int .i64 q), .is (.pointer (some ⟨gg, q, none⟩)), .is (.bool false), .is (.bool false), .is (.bool false), .is (.pointer (some ⟨g8, 0, none⟩)), .is (.int .i64 x.kind), .is (.bool false), .is (.bool false), .is undef, .is undef, .is undef, .is undef, .is undef, .is undef, .is undef, .is undef, .is (.bool false), .is (.bool false)] (by kernel_rfl) rfl (by kernel_rfl) (by kernel_rfl) (.cons ?c3_0 (.cons ?c3_1 (.cons ?c3_2 (.cons ?c3_3 (.cons ?c3_4 (.cons ?c3_5 (.cons ?c3_6 (.cons ?c3_7 (.cons ?c3_8 (.cons ?c3_9 (.cons ?c3_10 (.cons ?c3_11 (.cons ?c3_12 (.cons ?c3_13 (.cons ?c3_14 (.cons ?c3_15 (.cons ?c3_16 (.cons ?c3_17 (.cons ?c3_18 (.cons ?c3_19 (.cons ?c3_20 (.cons ?c3_21 (.cons ?c3_22 (.cons ?c3_23 (.cons ?c3_24 (.cons ?c3_25 (.cons ?c3_26 (.cons ?c3_27 (.cons ?c3_28 (.cons ?c3_29 (.cons ?c3_30 (.cons ?c3_31 .nil)))))))))))))))))))))))))))))))) ?c3_fin
    case c3_0 =>
      intro wr hbw st  K hK
      simp only [Act.put, List.setIfInBounds_toArray, List.set_cons_zero, List.set_cons_succ] at hK ⊢
      unfold opStep
      rw [if_pos (by rfl)]
      go_simp
      exact hK.out _ _ (Below.refl _ _) rfl _ rfl
    case c3_1 =>
      intro wr hbw st  K hK
      simp only [Act.put, List.setIfInBounds_toArray, List.set_cons_zero, List.set_cons_succ] at hK ⊢
      unfold opStep
      rw [if_pos (by rfl)]
      have d1 : wr.cell? ⟨g8, 1, none⟩ = some (.int .i64 q) := (hbw.cell (p := ⟨g8, 1, none⟩) HDA.out.2.2).trans HDA.out.1
      go_simp
      exact hK.out _ _ (Below.refl _ _) rfl _ rfl
    case c3_2 =>
      intro wr hbw st  K hK
      simp only [Act.put, List.setIfInBounds_toArray, List.set_cons_zero, List.set_cons_succ] at hK ⊢
      unfold opStep
      rw [if_pos (by rfl)]
      go_simp
      exact hK.out _ _ (Below.refl _ _) rfl _ rfl
    case c3_3 =>
      intro wr hbw st  K hK
      simp only [Act.put, List.setIfInBounds_toArray, List.set_cons_zero, List.set_cons_succ] at hK ⊢
      unfold opStep
      rw [if_pos (by rfl)]
      go_simp
      exact hK.out _ _ (Below.refl _ _) rfl _ rfl
    case c3_4 =>
      intro wr hbw st  K hK
      simp only [Act.put, List.setIfInBounds_toArray, List.set_cons_zero, List.set_cons_succ] at hK ⊢
      unfold opStep
      rw [if_pos (by rfl)]
      go_simp
      exact hK.out _ _ (Below.refl _ _) rfl _ rfl
    case c3_5 =>
      intro wr hbw st  K hK
      simp only [Act.put, List.setIfInBounds_toArray, List.set_cons_zero, List.set_cons_succ] at hK ⊢
      unfold opStep
      rw [if_pos (by rfl)]
      have d1 : wr.cell? ⟨g8, 1, none⟩ = some (.int .i64 q) := (hbw.cell (p := ⟨g8, 1, none⟩) HDA.out.2.2).trans HDA.out.1
      go_simp
      exact hK.out _ _ (Below.refl _ _) rfl _ rfl
    case c3_6 =>
      intro wr hbw st  K hK
      simp only [Act.put, List.setIfInBounds_toArray, List.set_cons_zero, List.set_cons_succ] at hK ⊢
      unfold opStep
      rw [if_pos (by rfl)]
      go_simp
      exact hK.out _ _ (Below.refl _ _) rfl _ rfl
    case c3_7 =>
      intro wr hbw st  K hK
      simp only [Act.put, List.setIfInBounds_toArray, List.set_cons_zero, List.set_cons_succ] at hK ⊢
      unfold opStep
      rw [if_pos (by rfl)]
      go_simp
      exact hK.out _ _ (Below.refl _ _) rfl _ rfl
    case c3_8 =>
      intro wr hbw st  K hK
      simp only [Act.put, List.setIfInBounds_toArray, List.set_cons_zero, List.set_cons_succ] at hK ⊢
      unfold opStep
      rw [if_pos (by rfl)]
      go_simp
      exact hK.out _ _ (Below.refl _ _) rfl _ rfl
    case c3_9 =>
      intro wr hbw st  K hK
      simp only [Act.put, List.setIfInBounds_toArray, List.set_cons_zero, List.set_cons_succ] at hK ⊢
      unfold opStep
      rw [if_pos (by rfl)]
      go_simp
      exact hK.out _ _ (Below.refl _ _) rfl _ rfl
    case c3_10 =>
      intro wr hbw st  K hK
      simp only [Act.put, List.setIfInBounds_toArray, List.set_cons_zero, List.set_cons_succ] at hK ⊢
      unfold opStep
      rw [if_pos (by rfl)]
      go_simp
      exact hK.out _ _ (Below.refl _ _) rfl _ rfl
    case c3_11 =>
      intro wr hbw st  K hK
      simp only [Act.put, List.setIfInBounds_toArray, List.set_cons_zero, List.set_cons_succ] at hK ⊢
      unfold opStep
      rw [if_pos (by rfl)]
      go_simp
      exact hK.out _ _ (Below.refl _ _) rfl _ rfl
    case c3_12 =>
      intro wr hbw st  K hK
      simp only [Act.put, List.setIfInBounds_toArray, List.set_cons_zero, List.set_cons_succ] at hK ⊢
      unfold opStep
      rw [if_pos (by rfl)]
      go_simp
      exact hK.out _ _ (Below.refl _ _) rfl _ rfl
    case c3_13 =>
      intro wr hbw st  K hK
      simp only [Act.put, List.setIfInBounds_toArray, List.set_cons_zero, List.set_cons_succ] at hK ⊢
      unfold opStep
      rw [if_pos (by rfl)]
      have d1 : wr.cell? ⟨g8, 1, none⟩ = some (.int .i64 q) := (hbw.cell (p := ⟨g8, 1, none⟩) HDA.out.2.2).trans HDA.out.1
      go_simp
      exact hK.out _ _ (Below.refl _ _) rfl _ rfl
    case c3_14 =>
      intro wr hbw st  K hK
      simp only [Act.put, List.setIfInBounds_toArray, List.set_cons_zero, List.set_cons_succ] at hK ⊢
      unfold opStep
      rw [if_pos (by rfl)]
      go_simp
      exact hK.out _ _ (Below.refl _ _) rfl _ rfl
    case c3_15 =>
      intro wr hbw st  K hK
      simp only [Act.put, List.setIfInBounds_toArray, List.set_cons_zero, List.set_cons_succ] at hK ⊢
      unfold opStep
      rw [if_pos (by rfl)]
      have d2 : wr.cell? ⟨gg, q, none⟩ = some (.bool false) := (hbw.cell (p := ⟨gg, q, none⟩) HFZ.out.2).trans HDD.out
      go_simp
      exact hK.out _ _ (Below.refl _ _) rfl _ rfl
    case c3_16 =>
      intro wr hbw st  K hK
      simp only [Act.put, List.setIfInBounds_toArray, List.set_cons_zero, List.set_cons_succ] at hK ⊢
      unfold opStep
      rw [if_pos (by rfl)]
      go_simp
      exact hK.out _ _ (Below.refl _ _) rfl _ rfl
    case c3_17 =>
      intro wr hbw st  K hK
      simp only [Act.put, List.setIfInBounds_toArray, List.set_cons_zero, List.set_cons_succ] at hK ⊢
      unfold opStep
      rw [if_pos (by rfl)]
      go_simp
      exact hK.out _ _ (Below.refl _ _) rfl _ rfl
    case c3_18 =>
      intro wr hbw st  K hK
      simp only [Act.put, List.setIfInBounds_toArray, List.set_cons_zero, List.set_cons_succ] at hK ⊢
      unfold opStep
      rw [if_pos (by rfl)]
      go_simp
      exact hK.out _ _ (Below.refl _ _) rfl _ rfl
    case c3_19 =>
      intro wr hbw st  K hK
      simp only [Act.put, List.setIfInBounds_toArray, List.set_cons_zero, List.set_cons_succ] at hK ⊢
      unfold opStep
      rw [if_pos (by rfl)]
      have d0 : wr.cell? ⟨g8, 0, none⟩ = some (.int .i64 x.kind) := (hbw.cell (p := ⟨g8, 0, none⟩) HDA.out.2.2).trans HDA.out.2.1
      go_simp
      exact hK.out _ _ (Below.refl _ _) rfl _ rfl
    case c3_20 =>
      intro wr hbw st  K hK
      simp only [Act.put, List.setIfInBounds_toArray, List.set_cons_zero, List.set_cons_succ] at hK ⊢
      unfold opStep
      rw [if_pos (by rfl)]
      go_simp
      exact hK.out _ _ (Below.refl _ _) rfl _ rfl
    case c3_21 =>
      intro wr hbw st  K hK
      simp only [Act.put, List.setIfInBounds_toArray, List.set_cons_zero, List.set_cons_succ] at hK ⊢
      unfold opStep
      rw [if_pos (by rfl)]
      go_simp
      exact hK.out _ _ (Below.refl _ _) rfl _ rfl
    case c3_22 =>
      intro wr hbw st  K hK
      simp only [Act.put, List.setIfInBounds_toArray, List.set_cons_zero, List.set_cons_succ] at hK ⊢
      unfold opStep
      rw [if_neg (by change ¬ (false = true); exact Bool.false_ne_true)]
      exact hK.out _ _ (Below.refl _ _) rfl _ rfl
    case c3_23 =>
      intro wr hbw st  K hK
      simp only [Act.put, List.setIfInBounds_toArray, List.set_cons_zero, List.set_cons_succ] at hK ⊢
      unfold opStep
      rw [if_neg (by change ¬ (false = true); exact Bool.false_ne_true)]
      exact hK.out _ _ (Below.refl _ _) rfl _ rfl
    case c3_24 =>
      intro wr hbw st  K hK
      simp only [Act.put, List.setIfInBounds_toArray, List.set_cons_zero, List.set_cons_succ] at hK ⊢
      unfold opStep
      rw [if_neg (by change ¬ (false = true); exact Bool.false_ne_true)]
      exact hK.out _ _ (Below.refl _ _) rfl _ rfl
    case c3_25 =>
      intro wr hbw st  K hK
      simp only [Act.put, List.setIfInBounds_toArray, List.set_cons_zero, List.set_cons_succ] at hK ⊢
      unfold opStep
      rw [if_neg (by change ¬ (false = true); exact Bool.false_ne_true)]
      exact hK.out _ _ (Below.refl _ _) rfl _ rfl
    case c3_26 =>
      intro wr hbw st  K hK
      simp only [Act.put, List.setIfInBounds_toArray, List.set_cons_zero, List.set_cons_succ] at hK ⊢
      unfold opStep
      rw [if_neg (by change ¬ (false = true); exact Bool.false_ne_true)]
      exact hK.out _ _ (Below.refl _ _) rfl _ rfl
    case c3_27 =>
      intro wr hbw st  K hK
      simp only [Act.put, List.setIfInBounds_toArray, List.set_cons_zero, List.set_cons_succ] at hK ⊢
      unfold opStep
      rw [if_neg (by change ¬ (false = true); exact Bool.false_ne_true)]
      exact hK.out _ _ (Below.refl _ _) rfl _ rfl
    case c3_28 =>
      intro wr hbw st  K hK
      simp only [Act.put, List.setIfInBounds_toArray, List.set_cons_zero, List.set_cons_succ] at hK ⊢
      unfold opStep
      rw [if_neg (by change ¬ (false = true); exact Bool.false_ne_true)]
      exact hK.out _ _ (Below.refl _ _) rfl _ rfl
    case c3_29 =>
      intro wr hbw st  K hK
      simp only [Act.put, List.setIfInBounds_toArray, List.set_cons_zero, List.set_cons_succ] at hK ⊢
      unfold opStep
      rw [if_neg (by change ¬ (false = true); exact Bool.false_ne_true)]
      exact hK.out _ _ (Below.refl _ _) rfl _ rfl
    case c3_30 =>
      intro wr hbw st  K hK
      simp only [Act.put, List.setIfInBounds_toArray, List.set_cons_zero, List.set_cons_succ] at hK ⊢
      unfold opStep
      rw [if_pos (by rfl)]
      go_simp
      exact hK.out _ _ (Below.refl _ _) rfl _ rfl
    case c3_31 =>
      intro wr hbw st  K hK
      simp only [Act.put, List.setIfInBounds_toArray, List.set_cons_zero, List.set_cons_succ] at hK ⊢
      unfold opStep
      rw [if_pos (by rfl)]
      go_simp
      exact hK.out _ _ (Below.refl _ _) rfl _ rfl
    case c3_fin =>
      intro wr hbw
      try simp only [FinAll]
      simp only [Act.put, List.setIfInBounds_toArray, List.set_cons_zero, List.set_cons_succ]
      have HCr : Hid (CW W wr n b gn (.slice (some ⟨kg, 0, none⟩) L.length kcap) (.slice (some ⟨gg, 0, none⟩) G.length gcap) s' L G) := Lib.hid (HC9.out.on hbw)
      have d1 : wr.cell? ⟨g8, 1, none⟩ = some (.int .i64 q) := (hbw.cell (p := ⟨g8, 1, none⟩) HDA.out.2.2).trans HDA.out.1
      have d2 : wr.cell? ⟨gg, q, none⟩ = some (.bool false) := (hbw.cell (p := ⟨gg, q, none⟩) HFZ.out.2).trans HDD.out
      have d3 : wr.frozen? ⟨gg, q, none⟩ = false := HCr.out.gl.free1 rfl q
      have d4 : gg < wr.heap.size := Nat.lt_of_lt_of_le HFZ.out.2 hbw.size
      have HC10 : Hid (CW W (wr.setCell ⟨gg, q, none⟩ (.bool true)) n b gn (.slice (some ⟨kg, 0, none⟩) L.length kcap) (.slice (some ⟨gg, 0, none⟩) G.length gcap) s' L (G.set q true)) := Lib.hid (HCr.out.setG rfl true)
      have HGL : Hid ((G.set q true).length = G.length) := Lib.hid List.length_set
      go_wp2_with fail
      clear d1 d2 d3 d4 c1 c2 c3 hq0 hq1 hq2 hq3 hl3
      generalize World.setCell wr _ _ = w10 at HC10 ⊢
      generalize G.set q true = G2 at *
      go_wp2_with fail
      apply HKK.out
      exact ⟨_, _, _, _, HDI.out, HK9.out, HC10.out⟩
end Go.Proofs.Ytmcdmcnbnnfhnaa.netConserves
