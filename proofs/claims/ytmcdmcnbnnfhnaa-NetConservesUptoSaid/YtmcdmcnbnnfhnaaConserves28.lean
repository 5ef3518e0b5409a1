/-
  NetConserves: each message is under way, delivered or dropped, exactly once. Condition: what came in is of bulk at most 1048576 (the given statement's own).
-/
import Derived.Test.YtmcdmcnbnnfhnaaXk1
import Derived.Test.YtmcdmcnbnnfhnaaXk4
import Derived.Test.YtmcdmcnbnnfhnaaXk2
import Derived.Test.YtmcdmcnbnnfhnaaXk3
import Derived.Test.YtmcdmcnbnnfhnaaXk5
import Derived.Test.YtmcdmcnbnnfhnaaXk6
import Derived.Test.YtmcdmcnbnnfhnaaXk0
namespace Go.Proofs.Ytmcdmcnbnnfhnaa.netConserves
open Go.ChangeShapes Go.WideShapes Go.ChangeAt Go.RowKit Go.Proofs.Ytmcdmcnbnnfhnaa
set_option maxRecDepth 100000
set_option maxHeartbeats 16000000 in
theorem walk (l : Int) (av : Value) (acts : List ActM) (W : World) (ha0 : ReadsD (fun _ => True) W av (actsD acts)) : Calls Try.prog 4 #[.int .i64 l, av] W (BoolMade W true) := by
  have HA := Lib.hid (show ReadsD (fun k => k < W.heap.size) W av (actsD acts) from ha0.lt.mono fun k h _ => h.2)
  obtain ⟨ao, cap, rfl, hl, hm, -, hL⟩ := ReadsD.slcM (f := actD) ha0
  unfold maxLen at hm
  clear ha0
  have HF : Hid (∀ e w', e = .returned (.bool true) ∧ Below W.heap.size W w' → BoolMade W true e w') := Lib.hid fun _ _ h => h
  generalize hQ : BoolMade W true = Q at *
  clear hQ
  have HAW := Lib.hid (awake_any W)
  go_enter Try.func4, Try.ntmps4
  go_wp2_with fail
  refine HAW.out.mono ?_
  rintro e w1 ⟨rfl, hb1⟩
  have HB1 := Lib.hid hb1
  clear hb1 HAW
  go_wp2_with fail
  by_cases hok : okL l
  case neg =>
    refine (new_no l w1 hok).mono ?_
    rintro e w2 ⟨rfl, rfl⟩
    clear hok
    go_wp2_with fail
    exact HF.out _ _ ⟨rfl, HB1.out⟩
  refine (new_yes l w1 hok).mono ?_
  rintro e w2 ⟨n, b, rfl, hn, hb, hnl, hbl⟩
  have HC0 := Lib.hid (CW.start (HB1.out.trans (hb.mono HB1.out.size)) hn (Nat.le_trans HB1.out.size hnl) (Nat.le_trans HB1.out.size hbl))
  have HLE : Hid (W.heap.size ≤ n ∧ W.heap.size ≤ b) := Lib.hid ⟨Nat.le_trans HB1.out.size hnl, Nat.le_trans HB1.out.size hbl⟩
  clear hn hb hnl hbl HB1 hok
  go_wp2
  go_loopg [7, 8, 9] acts.length (fun mm kv gv i wr => ∃ k : Nat, mm + k = acts.length ∧ i = .int .i64 k ∧ ∃ s L G gn, InvS l s k ∧ InvK s L G ∧ CW W wr n b gn kv gv s L G)
  case atStart => exact ⟨0, by omega, rfl, _, _, _, _, InvS.new l, InvK.new l, HC0.out⟩
  case round =>
    rename World => w4

    obtain ⟨k, hmk, rfl, s, L, G, gn, hinv, hik, hcw⟩ := hrel
    have HM := Lib.hid hmk
    have HINV := Lib.hid hinv
    have HIK := Lib.hid hik
    have HC4 := Lib.hid hcw
    have hk0 : (0 : Int) ≤ (k : Int) := by omega
    have hk1 : k ≤ acts.length := by omega
    have HKL : Hid (k ≤ 1048576) := Lib.hid (by omega)
    clear hmk hinv hik hcw HC0
    by_cases hlt : k < acts.length ∧ k < 60
    · have hki : (k : Int) < acts.length := by omega
      have hk60 : (k : Int) < 60 := by omega
      have HLT := Lib.hid hlt.1
      obtain ⟨b1, o1, c1, cs1, e1, -, -, hn1, -, g1, q1⟩ := ReadsD.item (f := actD) (HA.out.keep HC4.out.bel.size fun k hk _ => HC4.out.bel.block k hk) hlt.1
      injection e1 with e1 e2 e3
      subst e1
      clear e2 e3
      generalize acts[k] = x at *
      clear hlt
      have HQ1 := Lib.hid q1
      have HRG := Lib.hid (show w4.rangeAt b1 (o1 + k * 19) cs1 from g1 w4 (Below.refl _ _))
      have HONE := Lib.hid (CellsD.all q1)
      have HN19 := Lib.hid hn1
      have HS : Hid (Blk (w4.alloc (.cells #[.int .i64 0, .int .i64 0, .int .i64 0, .int .i64 0, .int .i64 0, .int .i64 0, .int .i64 0, .int .i64 0, .int .i64 0, .slice none 0 0, .slice none 0 0, .slice none 0 0, .slice none 0 0, .slice none 0 0, .slice none 0 0, .slice none 0 0, .int .i64 0, .slice none 0 0, .slice none 0 0] 54)) w4.heap.size 54 #[.int .i64 0, .int .i64 0, .int .i64 0, .int .i64 0, .int .i64 0, .int .i64 0, .int .i64 0, .int .i64 0, .int .i64 0, .slice none 0 0, .slice none 0 0, .slice none 0 0, .slice none 0 0, .slice none 0 0, .slice none 0 0, .slice none 0 0, .int .i64 0, .slice none 0 0, .slice none 0 0]) := Lib.hid (Blk.new w4 _ _)
      clear g1 q1 hn1
      obtain ⟨GG, hGG⟩ : ∃ GG, GG = gk := ⟨_, rfl⟩
      subst hGG
      go_upto_region 12 with (first | (refine wpList_load_mid rfl 54 (.tmp 47) rfl b1 (o1 + k * 19) rfl cs1 _ HRG.out Try.underlying54 rfl (by rw [HN19.out]; kernel_rfl) ?_) | (refine wpList_store_box rfl 54 (.tmp 10) (.tmp 48) rfl w4.heap.size 54 _ cs1.toArray rfl rfl HS.out (by rw [show cs1.toArray.size = 19 from by rw [List.size_toArray, HN19.out]]; kernel_rfl) (by rw [show cs1.toArray.size = 19 from by rw [List.size_toArray, HN19.out]]; rfl) HONE.out ?_; intro w5 hB5 hk5))
      have H45 : Hid (Below w4.heap.size w4 w5) := Lib.hid (((Kept.of ((Below.refl w4.heap.size w4).alloc (Nat.le_refl _) (.cells #[.int .i64 0, .int .i64 0, .int .i64 0, .int .i64 0, .int .i64 0, .int .i64 0, .int .i64 0, .int .i64 0, .int .i64 0, .slice none 0 0, .slice none 0 0, .slice none 0 0, .slice none 0 0, .slice none 0 0, .slice none 0 0, .slice none 0 0, .int .i64 0, .slice none 0 0, .slice none 0 0] 54)) : Kept (fun b => b = w4.heap.size) w4 _).trans hk5).below (Nat.le_refl _) fun k hk e => by omega)
      obtain ⟨mc, gvv, rfl, hml, hmc, hgs⟩ := act_split HQ1.out
      have HC5 : Hid (CW W w5 n b gn u7 u8 s L G) := Lib.hid (HC4.out.on H45.out)
      have H5 : Hid (CellsD (fun k => k < W.heap.size) w5 mc (msgD x.m) ∧ ReadsD (fun k => k < W.heap.size) w5 gvv (groupsD x.gs)) := Lib.hid ⟨hmc.on H45.out, hgs.on H45.out⟩
      have HBX := Lib.hid hB5
      have HML := Lib.hid hml
      have HG8 : Hid (W.heap.size ≤ w4.heap.size ∧ u7.ownBlock ≠ some w4.heap.size ∧ u8.ownBlock ≠ some w4.heap.size ∧ w4.heap.size ≠ n ∧ w4.heap.size ≠ b) := Lib.hid ⟨HC4.out.bel.size, (HC4.out.new _ (Nat.le_refl _)).2.1, (HC4.out.new _ (Nat.le_refl _)).2.2, by have := HC4.out.net.box.lt; omega, by have := HC4.out.net.blt; omega⟩
      clear hB5 hk5 HS HRG HONE HN19 HQ1 hml hmc hgs H45 HC4
      generalize w4.heap.size = g8 at *
      have dk : w5.cell? ⟨g8, 0, none⟩ = some (.int .i64 x.kind) := (act_cells HBX.out).1
      have da : w5.cell? ⟨g8, 1, none⟩ = some (.int .i64 x.a.n) := (act_cells HBX.out).2.1
      have HAI := Lib.hid x.a.h
      go_upto_block 2 with fail
      go_cut [7, 8] from 35 to 202 (fun kv gv w => ∃ s L G gn, InvS l s (k + 1) ∧ InvK s L G ∧ CW W w n b gn kv gv s L G)
      case rest =>
        clear dk da HAI HC5 H5 HBX HML HG8 HINV HIK
        clear s L G gn
        obtain ⟨s, L, G, gn, hi, hk, hc⟩ := hcut
        have HI8 := Lib.hid hi
        have HK8 := Lib.hid hk
        have HC8 := Lib.hid hc
        clear hi hk hc
        have HCN := Lib.hid (counts_any HC8.out.net)
        have HAR : Hid ((0 ≤ s.sent ∧ s.sent ≤ 1048577) ∧ (0 ≤ s.twice ∧ s.twice ≤ 1048577) ∧ (0 ≤ s.taken ∧ s.taken ≤ 1048577) ∧ (0 ≤ s.gone ∧ s.gone ≤ 1048577) ∧ s.cnt ≤ 1048577 ∧ s.sent + s.twice = s.taken + s.gone + s.cnt ∧ s.sent + s.twice = (L.length : Int) - 1 ∧ L.length ≤ 1048579) := Lib.hid (by
          have h0 := HKL.out
          have h1 := HI8.out.a0
          have h2 := HI8.out.a1
          have h3 := HI8.out.b0
          have h4 := HI8.out.b1
          have h5 := HI8.out.c0
          have h6 := HI8.out.c1
          have h7 := HI8.out.d0
          have h8 := HI8.out.d1
          have h9 := HI8.out.cnt
          have ha := HI8.out.sum
          have hb := HI8.out.all
          have hc := HI8.out.l1
          have hd := HK8.out.len
          exact ⟨⟨h1, by omega⟩, ⟨h3, by omega⟩, ⟨h5, by omega⟩, ⟨h7, by omega⟩, by omega, ha, by omega, by omega⟩)
        obtain ⟨kcap, hkv⟩ : ∃ z : Option Addr × Nat, u7 = .slice z.1 L.length z.2 := HC8.out.kl.slc
        obtain ⟨⟨hc1, hc2⟩, ⟨hc3, hc4⟩, ⟨hc5, hc6⟩, ⟨hc7, hc8⟩, hc9, hca, hcb, hcc⟩ := HAR.out
        have eq1 := beq_t hca
        have eq2 := neq_f hca
        have eq3 := beq_t hcb
        have eq4 := neq_f hcb
        have hcd : (0 : Int) ≤ (s.cnt : Int) := by omega
        have hce : (s.cnt : Int) ≤ 1048577 := by omega
        rw [hkv]
        go_wp2_with fail
        refine HCN.out.mono ?_
        rintro e w7 ⟨rfl, hb7⟩
        have HC7 : Hid (CW W w7 n b _ u7 _ _ _ _) := Lib.hid (HC8.out.on hb7)
        clear hb7 HCN
        go_wp2_with fail
        go_roundg (acts.length - (k + 1))
        case measure => have := HM.out; have := HLT.out; omega
        case rel => exact ⟨k + 1, by have := HLT.out; omega, by go_num, _, _, _, _, HI8.out, HK8.out, by rw [← hkv]; exact HC7.out.on ((Below.refl _ _).alloc (Nat.le_refl _) _)⟩
      case first =>
        rename_i J K2 hJ hM
        change Code.wp Try.prog (subC [true, true, true, true, true, true, false, true, false, false, true, false, false, true, false, true] (Try.f4.body.getD .skip)) _ _ _
        by_cases k1 : x.kind = 1
        · exact kind1 HINV.out HIK.out HKL.out HC5.out H5.out HBX.out HML.out HG8.out HLE.out k1 (fun _ _ _ _ _ _ _ _ _ _ _ _ _ _ _ _ _ _ _ _ _ _ _ _ _ _ _ _ _ _ _ _ _ _ _ _ _ _ _ _ _ _ _ _ _ _ _ _ _ _ _ _ _ _ _ _ _ _ _ _ _ _ _ _ _ _ _ _ _ _ _ _ _ _ _ _ _ _ _ _ _ _ _ _ _ _ _ _ _ _ _ _ _ _ _ _ _ _ _ _ _ _ _ _ _ _ _ _ _ _ _ _ _ _ _ _ _ _ _ _ _ _ _ _ _ _ _ _ _ _ _ _ _ _ _ _ _ _ _ _ _ _ _ _ _ _ _ _ _ _ _ _ _ _ _ _ _ _ _ _ _ _ _ _ _ _ _ _ _ _ _ _ _ _ _ _ hx => hM _ _ (Met.intro (hJ _ _ (by (repeat apply Exists.intro); exact ⟨hx, rfl⟩))))
        by_cases k4 : x.kind = 4
        · exact kind4 HINV.out HIK.out HKL.out HC5.out H5.out HBX.out HML.out HG8.out HLE.out k4 (fun _ _ _ _ _ _ _ _ _ _ _ _ _ _ _ _ _ _ _ _ _ _ _ _ _ _ _ _ _ _ _ _ _ _ _ _ _ _ _ _ _ _ _ _ _ _ _ _ _ _ _ _ _ _ _ _ _ _ _ _ _ _ _ _ _ _ _ _ _ _ _ _ _ _ _ _ _ _ _ _ _ _ _ _ _ _ _ _ _ _ _ _ _ _ _ _ _ _ _ _ _ _ _ _ _ _ _ _ _ _ _ _ _ _ _ _ _ _ _ _ _ _ _ _ _ _ _ _ _ _ _ _ _ _ _ _ _ _ _ _ _ _ _ _ _ _ _ _ _ _ _ _ _ _ _ _ _ _ _ _ _ _ _ _ _ _ _ _ _ _ _ _ _ _ _ _ hx => hM _ _ (Met.intro (hJ _ _ (by (repeat apply Exists.intro); exact ⟨hx, rfl⟩))))
        by_cases k2 : x.kind = 2
        · exact kind2 HINV.out HIK.out HKL.out HC5.out H5.out HBX.out HML.out HG8.out HLE.out k2 (fun _ _ _ _ _ _ _ _ _ _ _ _ _ _ _ _ _ _ _ _ _ _ _ _ _ _ _ _ _ _ _ _ _ _ _ _ _ _ _ _ _ _ _ _ _ _ _ _ _ _ _ _ _ _ _ _ _ _ _ _ _ _ _ _ _ _ _ _ _ _ _ _ _ _ _ _ _ _ _ _ _ _ _ _ _ _ _ _ _ _ _ _ _ _ _ _ _ _ _ _ _ _ _ _ _ _ _ _ _ _ _ _ _ _ _ _ _ _ _ _ _ _ _ _ _ _ _ _ _ _ _ _ _ _ _ _ _ _ _ _ _ _ _ _ _ _ _ _ _ _ _ _ _ _ _ _ _ _ _ _ _ _ _ _ _ _ _ _ _ _ _ _ _ _ _ _ hx => hM _ _ (Met.intro (hJ _ _ (by (repeat apply Exists.intro); exact ⟨hx, rfl⟩))))
        by_cases k3 : x.kind = 3
        · exact kind3 HINV.out HIK.out HKL.out HC5.out H5.out HBX.out HML.out HG8.out HLE.out k3 (fun _ _ _ _ _ _ _ _ _ _ _ _ _ _ _ _ _ _ _ _ _ _ _ _ _ _ _ _ _ _ _ _ _ _ _ _ _ _ _ _ _ _ _ _ _ _ _ _ _ _ _ _ _ _ _ _ _ _ _ _ _ _ _ _ _ _ _ _ _ _ _ _ _ _ _ _ _ _ _ _ _ _ _ _ _ _ _ _ _ _ _ _ _ _ _ _ _ _ _ _ _ _ _ _ _ _ _ _ _ _ _ _ _ _ _ _ _ _ _ _ _ _ _ _ _ _ _ _ _ _ _ _ _ _ _ _ _ _ _ _ _ _ _ _ _ _ _ _ _ _ _ _ _ _ _ _ _ _ _ _ _ _ _ _ _ _ _ _ _ _ _ _ _ _ _ _ hx => hM _ _ (Met.intro (hJ _ _ (by (repeat apply Exists.intro); exact ⟨hx, rfl⟩))))
        by_cases k5 : x.kind = 5
        · exact kind5 HINV.out HIK.out HKL.out HC5.out H5.out HBX.out HML.out HG8.out HLE.out k5 (fun _ _ _ _ _ _ _ _ _ _ _ _ _ _ _ _ _ _ _ _ _ _ _ _ _ _ _ _ _ _ _ _ _ _ _ _ _ _ _ _ _ _ _ _ _ _ _ _ _ _ _ _ _ _ _ _ _ _ _ _ _ _ _ _ _ _ _ _ _ _ _ _ _ _ _ _ _ _ _ _ _ _ _ _ _ _ _ _ _ _ _ _ _ _ _ _ _ _ _ _ _ _ _ _ _ _ _ _ _ _ _ _ _ _ _ _ _ _ _ _ _ _ _ _ _ _ _ _ _ _ _ _ _ _ _ _ _ _ _ _ _ _ _ _ _ _ _ _ _ _ _ _ _ _ _ _ _ _ _ _ _ _ _ _ _ _ _ _ _ _ _ _ _ _ _ _ hx => hM _ _ (Met.intro (hJ _ _ (by (repeat apply Exists.intro); exact ⟨hx, rfl⟩))))
        by_cases k6 : x.kind = 6
        · exact kind6 HINV.out HIK.out HKL.out HC5.out H5.out HBX.out HML.out HG8.out HLE.out k6 (fun _ _ _ _ _ _ _ _ _ _ _ _ _ _ _ _ _ _ _ _ _ _ _ _ _ _ _ _ _ _ _ _ _ _ _ _ _ _ _ _ _ _ _ _ _ _ _ _ _ _ _ _ _ _ _ _ _ _ _ _ _ _ _ _ _ _ _ _ _ _ _ _ _ _ _ _ _ _ _ _ _ _ _ _ _ _ _ _ _ _ _ _ _ _ _ _ _ _ _ _ _ _ _ _ _ _ _ _ _ _ _ _ _ _ _ _ _ _ _ _ _ _ _ _ _ _ _ _ _ _ _ _ _ _ _ _ _ _ _ _ _ _ _ _ _ _ _ _ _ _ _ _ _ _ _ _ _ _ _ _ _ _ _ _ _ _ _ _ _ _ _ _ _ _ _ _ hx => hM _ _ (Met.intro (hJ _ _ (by (repeat apply Exists.intro); exact ⟨hx, rfl⟩))))
        exact kind0 HINV.out HIK.out HKL.out HC5.out H5.out HBX.out HML.out HG8.out HLE.out ⟨k1, k4, k2, k3, k5, k6⟩ (fun _ _ _ _ _ _ _ _ _ _ _ _ _ _ _ _ _ _ _ _ _ _ _ _ _ _ _ _ _ _ _ _ _ _ _ _ _ _ _ _ _ _ _ _ _ _ _ _ _ _ _ _ _ _ _ _ _ _ _ _ _ _ _ _ _ _ _ _ _ _ _ _ _ _ _ _ _ _ _ _ _ _ _ _ _ _ _ _ _ _ _ _ _ _ _ _ _ _ _ _ _ _ _ _ _ _ _ _ _ _ _ _ _ _ _ _ _ _ _ _ _ _ _ _ _ _ _ _ _ _ _ _ _ _ _ _ _ _ _ _ _ _ _ _ _ _ _ _ _ _ _ _ _ _ _ _ _ _ _ _ _ _ _ _ _ _ _ _ _ _ _ _ _ _ _ _ hx => hM _ _ (Met.intro (hJ _ _ (by (repeat apply Exists.intro); exact ⟨hx, rfl⟩))))
    · have HCN : Hid (s.cnt ≤ 1000000000) := Lib.hid (by have := HINV.out.cnt; have := HKL.out; omega)
      have HUK := Lib.hid (under_keys HIK.out HINV.out (by have := HINV.out.l1; have := HKL.out; omega))
      have HLN : Hid (1 ≤ L.length ∧ L.length ≤ 1048578 ∧ G.length = L.length) := Lib.hid ⟨by have := HIK.out.len; have := HINV.out.l0; omega, by have := HIK.out.len; have := HINV.out.l1; have := HKL.out; omega, HIK.out.gl⟩
      obtain ⟨kc, hkc⟩ := HC4.out.kl.slc
      subst hkc
      obtain ⟨gg, gcap, hgv, -, -⟩ := HC4.out.gl.item (k := 0) (by have := HLN.out; omega)
      subst hgv
      obtain ⟨i0, hi, hz0, hz1, hz2⟩ := info_parts Try.infoInt0
      have HI := Lib.hid (And.intro hi (And.intro hz0 (And.intro hz1 hz2)))
      clear hi hz0 hz1 hz2
      have HU0 : Hid ((w4.alloc (.cells #[] 3)).ownsRow w4.heap.size 3 1 (.slice (some ⟨w4.heap.size, 0, none⟩) 0 0) (underL G 1).length ((underL G 1).map vi) ∧ Below w4.heap.size w4 (w4.alloc (.cells #[] 3))) := Lib.hid ⟨by rw [underL_one]; exact World.ownsRow_made w4 #[] 0 (Nat.le_refl _) (by decide) rfl, (Below.refl _ _).alloc (Nat.le_refl _) _⟩
      by_cases h1 : k < acts.length
      case' pos => have hd1 : (k : Int) < acts.length := by omega
      case' pos => have hd2 : ¬ (k : Int) < 60 := by omega
      case' neg => have hd1 : ¬ (k : Int) < acts.length := by omega
      all_goals
        clear hlt h1
        obtain ⟨GG, hGG⟩ : ∃ GG, GG = gk := ⟨_, rfl⟩
        subst hGG
        go_wp2
        go_loopg [17, 18] (L.length - 1) (fun mm o i wr => ∃ q : Nat, mm + q = L.length ∧ i = .int .i64 q ∧ 1 ≤ q ∧ wr.ownsRow w4.heap.size 3 1 o (underL G q).length ((underL G q).map vi) ∧ Below w4.heap.size w4 wr)
        case atStart => exact ⟨1, by have := HLN.out; omega, rfl, Nat.le_refl _, HU0.out.1, HU0.out.2⟩
        case round =>
          rename World => w9
          obtain ⟨q, hmq, rfl, h1q, hown, hbel⟩ := hrel
          have HM2 := Lib.hid hmq
          have HO := Lib.hid (And.intro hown hbel)
          have HQ1 := Lib.hid (And.intro h1q trivial)
          have hq0 : (0 : Int) ≤ (q : Int) := by omega
          have hq1 : q ≤ L.length := by have := HLN.out; omega
          have HQL := Lib.hid (And.intro hq1 trivial)
          clear hmq h1q hown hbel hd1 HU0
          by_cases hlq : q < L.length
          · have hqi : (q : Int) < L.length := by omega
            have hqg : (q : Int) < G.length := by have := HLN.out; omega
            have HQG : Hid (q < G.length ∧ q < L.length) := Lib.hid ⟨by have := HLN.out; omega, hlq⟩
            have HCQ := Lib.hid (HC4.out.gl.cellq HQG.out.1)
            have HST := Lib.hid (underL_succ G HQ1.out.1 HQG.out.1)
            have HUL := Lib.hid (Nat.le_trans (underL_len G q) HQL.out.1)
            have hll : (L.length : Int) ≤ 1048578 := by have := HLN.out.2.1; omega
            have d1 : w9.cell? ⟨gg, q, none⟩ = some (.bool G[q]) := (HO.out.2.cell (p := ⟨gg, q, none⟩) HCQ.out.2).trans HCQ.out.1
            clear hlq hq1
            cases hgq : G[q]'HQG.out.1 with
            | true =>
              rw [hgq] at d1
              have HE : Hid (underL G (q + 1) = underL G q) := Lib.hid (by rw [HST.out, hgq]; rfl)
              clear hgq HST HCQ
              go_wp2_with fail
              go_roundg (L.length - (q + 1))
              case measure => have := HM2.out; have := HQG.out; omega
              case rel => exact ⟨q + 1, by have := HQG.out; omega, by go_num, by omega, by rw [HE.out]; exact HO.out.1, HO.out.2⟩
            | false =>
              rw [hgq] at d1
              have HE : Hid (underL G (q + 1) = underL G q ++ [(q : Int)]) := Lib.hid (by rw [HST.out, hgq]; rfl)
              clear hgq HST HCQ
              generalize underL G q = out at *
              have hol := HUL.out
              go_wp2_with (at_builtin; refine wpList_append_own _ rfl _ _ 59 rfl w4.heap.size 3 i0 (.int .i64 0) 1 8 Try.underlying59 HI.out.1 HI.out.2.1 HI.out.2.2.1 HI.out.2.2.2 rfl (by decide) _ _ _ rfl (by exact HO.out.1.alloc _) ⟨_, 0, none⟩ 1 1 [.int .i64 q] rfl rfl ?q1 ?q2 ?q3 ?q4 ?q5 ?_)
              case q1 => exact cell_one_new _ _ _
              case q2 => intro u hu; simp at hu; subst hu; rfl
              case q3 => unfold maxLen; omega
              case q4 => omega
              case q5 => have := HO.out.2.size; simp; omega
              intro v3 w3 hown3 hgr3 _
              have H3 := Lib.hid (append_one (x := (q : Int)) HO.out.1 HO.out.2 (by exact hgr3) hown3)
              clear hown3 hgr3 hol
              go_wp2
              go_roundg (L.length - (q + 1))
              case measure => have := HM2.out; have := HQG.out; omega
              case rel => exact ⟨q + 1, by have := HQG.out; omega, by go_num, by omega, by rw [HE.out]; exact H3.out.1, H3.out.2⟩
          · have hqi : ¬ (q : Int) < L.length := by omega
            have hqe : q = G.length := by have := HLN.out; omega
            subst hqe
            have HC9 : Hid (CW W w9 n b gn _ _ s L G) := Lib.hid (HC4.out.on HO.out.2)
            have HRO : Hid (Reads vi w9 u17 (underL G G.length)) := Lib.hid (Reads.of_owns HO.out.1)
            have HBO : Hid (∀ b0, u17.ownBlock = some b0 → b0 < w9.heap.size) := Lib.hid fun b0 h0 => (HO.out.1.lt b0 h0).2
            have HUL : Hid ((underL G G.length).length ≤ 1000000000) := Lib.hid (by have h1 := underL_len G G.length; have h2 := HLN.out; omega)
            have HBW : Hid (Below W.heap.size W w9) := Lib.hid HC9.out.bel
            have HCL := Lib.hid (pending_any HC9.out.net HCN.out)
            clear hlq HO HC4
            generalize underL G G.length = U at *
            go_wp2_with fail
            refine HCL.out.mono ?_
            rintro e w10 ⟨pv, L2, rfl, hrd2, hks2, -, -, hb10⟩
            obtain rfl := KeysOf.unique hks2 HUK.out
            have HR10 : Hid (Reads vi w10 pv L2 ∧ Reads vi w10 u17 L2) := Lib.hid ⟨hrd2, HRO.out.keep hb10⟩
            have HB10 : Hid (Below W.heap.size W w10) := Lib.hid (HBW.out.trans (hb10.mono HBW.out.size))
            clear hrd2 hks2 hb10 HCL
            have HCL := Lib.hid (same_ints pv u17 L2 w10 HR10.out.1 HR10.out.2 HUL.out)
            go_wp2_with fail
            refine HCL.out.mono ?_
            rintro e w11 ⟨rfl, hb11⟩
            have HB11 : Hid (Below W.heap.size W w11) := Lib.hid (HB10.out.trans (hb11.mono HB10.out.size))
            clear hb11 HCL
            go_wp2_with fail
            exact HF.out _ _ ⟨rfl, HB11.out⟩
theorem contract (H : Type) (enc : TypeId × Value → H) (W : World) (base : Nat) (args : Array Value) (ds gs : List (DataW H)) (before : List MemPlace)
    (hval0 : ∀ (j : Nat) t v, Try.f4.params[j]? = some t → args[j]? = some v → Value.okWide Try.prog W .any base t v)
    (hW : DataW.Whole enc Try.prog Try.f4.params.toList Rows.netConservesSpec.vars false W args.toList ds gs before) (hk : Rows.uptoSmall H (ds ++ gs) = true) :
    Calls Try.prog 4 args W fun e W' => ∃ v, e = .returned v ∧ Rows.netConservesSpec.post enc Try.prog Try.f4 false true false false W args v W' := by
  have hval : ∀ (j : Nat) t v, Try.f4.params[j]? = some t → args[j]? = some v → Value.okWide Try.prog W .any base t v := hval0
  have hW' := hW
  obtain ⟨p, q, hA0, hV, rfl, hfz, hnd⟩ := hW
  have hA : DataW.TrodAll enc Try.prog W 0 (fun _ => true) true Try.f4.params.toList args.toList ds p := hA0
  rw [Try.params4] at hA hval
  have hfp := free_left hfz
  obtain ⟨v0, vs0, d0, ds0, p0, q0, hargs, rfl, rfl, t0, r0⟩ := trodAll_cons hA
  obtain ⟨v1, vs1, d1, ds1, p1, q1, rfl, rfl, rfl, t1, r1⟩ := trodAll_cons r0
  obtain ⟨rfl, rfl, rfl⟩ := trodAll_nil r1
  obtain rfl : args = #[v0, v1] := by cases args; simp_all
  obtain ⟨rfl, rfl⟩ := trodVars_none hV
  have hbk : Rows.uptoBulkAll [d0, d1] ≤ 1048576 := by simpa only [List.append_nil] using (of_decide_eq_true hk : Rows.uptoBulkAll _ ≤ 1048576)
  simp only [Rows.uptoBulkAll] at hbk
  clear hk
  obtain ⟨x0, rfl⟩ := okWide_int Try.underlying3 (hval 0 3 v0 rfl rfl)
  obtain ⟨a1, l1, k1, rfl⟩ := okWide_slice Try.underlying49 (hval 1 49 v1 rfl rfl)
  obtain ⟨u1, t1⟩ := t1
  simp only [Value.cells] at t1
  obtain ⟨x1, h1⟩ := ls_act t1 (free_left (free_right (hfp))) (by show Rows.uptoBulk d1 ≤ 1048576; omega)
  refine (walk x0 _ x1 W h1).mono fun e W' ⟨he, hb⟩ => ?_
  subst he
  exact ⟨_, rfl, law_post laidOut rfl (fun _ _ => rfl) (by kernel_rfl) Try.underlying4 (by rw [Try.params4]; exact fun t ht => by simp at ht; rcases ht with rfl | rfl; all_goals exact ⟨by kernel_rfl, of_decide_eq_true (by kernel_rfl)⟩) hW' hb⟩

theorem lifted (os : Os) (started : os.Started) (H : Type) (enc : TypeId × Value → H) (F : Stop.Interp) :
    ReturnsInHanded {} Try.checked os 4 .any ((Rows.OpenSpec.upto Rows.netConservesSpec).pre6 enc Try.prog Try.f4 Rows.netConservesUptoRow.domain false) (((Rows.OpenSpec.upto Rows.netConservesSpec).at F).post enc Try.prog Try.f4 false true false false) := by
  refine returnsInHanded_of_cond (C := Try.checked) (s := (Rows.OpenSpec.upto Rows.netConservesSpec)) (k := Rows.uptoSmall) rfl own started (by kernel_rfl) Try.func4
    (OpenSpec.witness (enc := enc) (C := Try.checked) (s := (Rows.OpenSpec.upto Rows.netConservesSpec)) (k := Rows.uptoSmall) rfl false ⟨#[], #[.int .i64 0, .slice none 0 0], []⟩ 8 (by kernel_rfl) (by kernel_rfl) (by kernel_rfl)
      (x := ([.lit (.int .i64 0), .nil], [], [])) (by kernel_rfl) rfl (by kernel_rfl)) ?_
  intro W base args ds gs before hval hW _ hk _
  exact contract H enc W base args ds gs before hval hW hk

theorem proved : Rows.NetConservesUptoSaid :=
  OpenClaim.holds_of_cond 4 Try.f4 rfl rfl rfl rfl rfl rfl rfl ⟨rfl, rfl, rfl, rfl, rfl⟩ rfl rfl rfl rfl rfl (by kernel_rfl) Try.func4 (by kernel_rfl)
    (of_decide_eq_true (by kernel_rfl)) (by unfold Func.isWrapper; first | (rw [if_pos (by decide +kernel)]; kernel_rfl) | (rw [if_neg (by decide +kernel)]; exact ⟨rfl, rfl⟩))
    (fun os started H enc _ F => lifted os started H enc F)
end Go.Proofs.Ytmcdmcnbnnfhnaa.netConserves
