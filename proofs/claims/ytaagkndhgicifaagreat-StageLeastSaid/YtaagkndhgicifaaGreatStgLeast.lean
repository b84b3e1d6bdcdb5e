/- DERIVED. Each choice holds, what is left has none: StageLeast, walked. (Printed by stleastgen.py.) -/
import Derived.Sort.CutIn
import Derived.OwnWalkIn
import Derived.Test.YtaagkndhgicifaaGreatStgIn
import Derived.Test.YtaagkndhgicifaaGreatRSolve
import Derived.Test.YtaagkndhgicifaaGreatRHolds
namespace Go.Proofs.YtaagkndhgicifaaGreat
open Go.RowKit Go.Shelf
attribute [local go_sem] Oper.semAt_some
set_option linter.unusedVariables false
set_option linter.unusedSimpArgs false
set_option maxRecDepth 100000

theorem ownsC_emptyS {w : World} {base g : Nat} {t : TypeId} {k : Nat} (hb : base ≤ g) (h : w.heap[g]? = some (.cells #[] t (0, 0))) : ownsC w base t k (.slice (some ⟨g, 0, none⟩) 0 0) 0 [] :=
 ⟨by simp, .inr ⟨g, 0, #[], rfl, hb, h, Nat.le_refl _, by unfold maxLen; omega, by simp, by simp⟩⟩
set_option maxHeartbeats 32000000 in
theorem least_any (w : World) (u1 u2 : Value) (x : Pack) (hx : PackAt w u1 u2 x) : Calls Tryz.prog 3 #[.agg #[u1, u2]] w (fun e w' => e = .returned (.bool true) ∧ Below w.heap.size w w') := by
 obtain ⟨a0, c0, rfl, -⟩ := id hx.1
 obtain ⟨a5, c5, rfl, -⟩ := id hx.2.2
 obtain ⟨n0, hn0⟩ : ∃ z, z = x.seeds.length := ⟨_, rfl⟩
 obtain ⟨n5, hn5⟩ : ∃ z, z = x.recs.length := ⟨_, rfl⟩
 rw [← hn0, ← hn5] at hx; rw [← hn0, ← hn5]
 obtain ⟨w1, hw1, hb1, hx1, y1, y2⟩ := aBk w #[.slice a0 n0 c0, .slice a5 n5 c5] 25
 obtain ⟨w3, hw3, hb3, hx3, y5, y6⟩ := aBk w1 #[.bool false] 4
 obtain ⟨b2, hb2e⟩ : ∃ b, w.heap.size = b := ⟨_, rfl⟩
 obtain ⟨b4, hb4e⟩ : ∃ b, w1.heap.size = b := ⟨_, rfl⟩
 have hb13 := hb1.trans (hb3.mono hb1.size)
 have g1 := (hb3.block _ (by omega)).trans hx1
 rw [hb2e] at g1; rw [hb4e] at hx3
 have G23 := hdL g1; have G43 := hdL hx3; have HB3 := hdL hb13; have HX := hdL hx; have HSZ := hdL (show w.heap.size ≤ b4 ∧ b4 < w3.heap.size from by omega)
 clear hx hn0 hn5 hb1 hb3 hb13 hx1 hx3 g1 y1 y2 y5 y6
 refine calls_of_wp_marks Tryz.func3 rfl ?_
 simp only [Tryz.ntmps3, List.size_toArray, List.length_cons, List.length_nil, Nat.reduceAdd, Nat.reduceSub, Array.replicate_succ, Array.replicate_zero, List.push_toArray, List.append_toArray, List.nil_append, List.cons_append]
 go_wp2_with fail
 refine (alive_any w3).mono ?_
 rintro e w4 ⟨rfl, h4⟩
 have G24 := hdL ((h4.block _ (loh G23.out)).trans G23.out); have G44 := hdL ((h4.block _ (loh G43.out)).trans G43.out)
 have HB4 := hdL (HB3.out.trans (h4.mono HB3.out.size)); have HZ4 := hdL h4.size
 clear h4
 obtain ⟨u0, u1⟩ := cells2 G24.out
 have HBG := hdL (begun_any w4 _ _ x (HX.out.below HB4.out))
 go_wp2_with fail
 refine HBG.out.mono ?_
 rintro e w5 ⟨h5, B, a1, n1, c1, a2, n2, c2, ok, rfl, hok⟩
 obtain ⟨w6, hw6, hb6, hx6, y1, y2⟩ := aBk w5 #[.slice a1 n1 c1, .slice a2 n2 c2] 28
 obtain ⟨b6, hb6e⟩ : ∃ b, w5.heap.size = b := ⟨_, rfl⟩
 rw [hb6e] at hx6
 have h46 := h5.trans (hb6.mono h5.size)
 have G46 := hdL ((h46.block _ (loh G44.out)).trans G44.out)
 have HB6 := hdL (HB4.out.trans (h46.mono HB4.out.size)); have HZ6 := hdL h46; have HX6 := hdL hx6; have HB56 := hdL hb6
 clear h5 hb6 h46 hx6 y1 y2 u0 u1
 cases ok
 ·have z0 := cell_of_heap G46.out 0
  have zf := foh G46.out
  have r0 := one_cellB (.bool true) G46.out
  go_wp2_with fail
  refine marks_ret0 (v := .bool true) (by simp [results, Tryz.results3, go_sem, r0]) rfl ⟨rfl, ?_⟩
  first | exact (HB6.out).setCell (p := ⟨b4, 0, none⟩) HSZ.out.1 _ | (have hq := (HB6.out).setCell (p := ⟨b4, 0, none⟩) HSZ.out.1 (.bool true); rw [hb2e] at hq; exact hq)
 ·obtain ⟨st, F, hbeg⟩ := hok rfl
  have hbe6 := hbeg.below HB56.out
  have HBE := hdL hbe6
  clear hok hbeg hbe6
  have HF1 := hdL (fix_any w6 B F st HBE.out.stk 600 (by decide))
  go_wp2_with fail
  refine HF1.out.mono ?_
  intro e w7 hfp
  obtain ⟨h7, po, e0, rfl, hq1⟩ := hfp.q
  have G47 := hdL ((h7.block _ (loh G46.out)).trans G46.out)
  have hx67 := (h7.block _ (loh HX6.out)).trans HX6.out
  have HQ1 := hdL hq1; have HX67 := hdL hx67; have HREF7 := hdL ((HBE.out.ref.below h7).keep (Z' := zAll) ⟨fun _ _ _ => trivial, Nat.le_refl _, fun _ _ _ h => h⟩); have HB7 := hdL (HB6.out.trans (h7.mono HB6.out.size))
  clear hfp h7 hq1 hx67
  by_cases k0 : e0 = 0
  ·subst k0
   obtain ⟨Tb, es, l, m, rfl, hft, hsg⟩ : ∃ Tb es l m, po = some ⟨Tb, 0, none⟩ ∧ fixT st 600 = some (es.map Prod.fst, l, m) ∧ StgAt (zNew w6.heap.size) w7 Tb es l m := by
    rcases HQ1.out with ⟨-, h, -⟩ | ⟨Tb, es, l, m, h1, -, h2, h3⟩
    ·cases h
    ·exact ⟨Tb, es, l, m, h1, h2, h3⟩
   have hres := fixT_res hft
   obtain ⟨w8, hw8, hb8, hx8, y1, y2⟩ := aBk w7 #[.slice none 0 0] 22
   obtain ⟨w9, hw9, hb9, hx9, y3, y4⟩ := aBk w8 #[.slice none 0 0] 22
   obtain ⟨wX0, hwX, hbX0, hxX0, y5, y6⟩ := aBk w9 #[.int .i64 0] 3
   obtain ⟨b8, hb8e⟩ : ∃ b, w7.heap.size = b := ⟨_, rfl⟩
   obtain ⟨b9, hb9e⟩ : ∃ b, w8.heap.size = b := ⟨_, rfl⟩
   obtain ⟨bX, hbXe⟩ : ∃ b, w9.heap.size = b := ⟨_, rfl⟩
   rw [hbXe] at hxX0
   obtain ⟨wX, hwY⟩ : ∃ W, wX0.setCell ⟨bX, 0, none⟩ (.int .i64 0) = W := ⟨_, rfl⟩
   have hxX : wX.heap[bX]? = some (.cells #[.int .i64 0] 3 (0, 0)) := by rw [← hwY]; exact set_at 0 _ hxX0 (by simp)
   have hbX : Below w9.heap.size w9 wX := by rw [← hwY]; exact hbX0.setCell (p := ⟨bX, 0, none⟩) (Nat.le_of_eq hbXe) _
   have hsX := loh hxX
   have xx0 := cell_of_heap hxX0 0
   have xxf := foh hxX0
   have hb7X := hb8.trans ((hb9.trans (hbX.mono hb9.size)).mono hb8.size)
   have g8 := (hbX.block _ (by omega)).trans ((hb9.block _ (by omega)).trans hx8)
   have g9 := (hbX.block _ (by omega)).trans hx9
   rw [hb8e] at g8; rw [hb9e] at g9
   obtain ⟨N7, hN7⟩ : ∃ n, n = w7.heap.size := ⟨_, rfl⟩
   have hlst : Lst N7 wX wX b8 b9 bX (.slice none 0 0) (.slice none 0 0) 0 [] [] := ⟨g8, g9, hxX, (PRows.consNil (PRows.consNil (PRows.nil _ _))), by omega, OnlyX.refl _ _, Below.refl _ _⟩
   have hsgX : StgAt (fun b => b < N7) wX Tb es l m := (hsg.keep (Z' := fun b => b < N7) ⟨fun b hl _ => by rw [hN7]; exact hl, Nat.le_refl _, fun _ _ _ h => h⟩).below hb7X
   have G4X := hdL ((hb7X.block _ (loh G47.out)).trans G47.out)
   have HRES := hdL hres; have HSG := hdL hsgX; have HLST := hdL hlst; have HREF := hdL ((HREF7.out.keep (Z' := fun b => b < N7) ⟨fun b hl _ => by rw [hN7]; exact hl, Nat.le_refl _, fun _ _ _ h => h⟩).below hb7X); have K6 := hdL ((hb7X.block _ (loh HX67.out)).trans HX67.out); have HBX := hdL (HB7.out.trans (hb7X.mono HB7.out.size)); have HNX := hdL (show N7 ≤ wX.heap.size ∧ b6 < N7 ∧ b4 < N7 ∧ w.heap.size ≤ N7 from ⟨by omega, by rw [hN7]; exact loh HX67.out, by rw [hN7]; exact loh G47.out, by rw [hN7]; exact HB7.out.size⟩); have HFEW := hdL HBE.out.few; have HGD := hdL HBE.out.good
   have hlen40 : es.length + l.length ≤ 40 := by
    have h1 := HRES.out.len
    have h2 := all_len st
    have h3 := HFEW.out
    rw [List.length_map] at h1
    omega
   clear hft hsg hres hb8 hb9 hbX hx8 hx9 hxX g8 g9 hb7X hlst hsgX y1 y2 y3 y4 y5 y6 hN7 hbX0 hxX0 hsX
   go_upto_region 12 with fail
   try rw [hwY]
   clear xx0 xxf hwY
   go_wp2_with fail
   refine (sallf_any wX (some ⟨Tb, 0, none⟩)).mono ?_
   rintro e wC ⟨rfl, hwC⟩
   obtain ⟨wc', hwc', hbC, hxC, z1, z2⟩ := aBk wX #[.pointer (some ⟨Tb, 0, none⟩)] 31
   obtain rfl : wC = wc' := hwC.trans hwc'
   have hst := sall_stops 7 (by omega) wC (fun b => b < N7) Tb _ l m (HSG.out.below hbC) wX.heap.size hxC (XNew N7) (fun b hz o hx => Nat.not_le_of_lt hz hx)
   obtain ⟨C, hCe⟩ : ∃ C, wX.heap.size = C := ⟨_, rfl⟩
   rw [hCe] at hst
   have hlC := HLST.out.below hbC
   have HST := hdL hst; have HLC := hdL hlC.base; have HREFC := hdL (HREF.out.below hbC); have HSGC := hdL (HSG.out.below hbC); have K6C := hdL ((hbC.block _ (loh K6.out)).trans K6.out); have G4C := hdL ((hbC.block _ (loh G4X.out)).trans G4X.out); have HBWC := hdL (HBX.out.trans (hbC.mono HBX.out.size)); have HVAR := hdL (show b8 < wC.heap.size ∧ b9 < wC.heap.size ∧ bX < wC.heap.size from ⟨loh hlC.c8, loh hlC.c9, loh hlC.c10⟩); have HBC := hdL hbC; have HNC := hdL (show N7 ≤ wC.heap.size from Nat.le_trans HNX.out.1 hbC.size)
   clear hst hbC hxC hwC hwc' hlC z1 z2
   go_wp2_with fail
   try rw [hCe]
   refine (wpIn_wide (n := 8)).1 ?_
   refine range_wideE (n := 8) (by omega) (gf := 48) (lb := #[.pointer (some ⟨C, 0, none⟩)]) rfl enters_sall HST.out (Below.refl _ _) (fun _ => rfl)
    (fun pre V => ∃ (ap : Option Addr) (cp : Nat) (ab : Option Addr) (nb cb : Nat) (bl : List Pk), nb = bl.length ∧ nb ≤ 40 ∧ (0 < lastS (pre.map Prod.fst) → bl = poolE (es.map Prod.fst) (lastS (pre.map Prod.fst))) ∧ Below N7 wC V ∧ Lst N7 V V b8 b9 bX (.slice ap pre.length cp) (.slice ab nb cb) (lastS (pre.map Prod.fst)) ((pre.map Prod.fst).map Ent.pkg) bl) (fun _ _ _ => False) ?own (fun c s P Q row hs hg hr => hs)
    ⟨none, 0, none, 0, 0, [], rfl, Nat.zero_le _, fun h => absurd h (by simp [lastS]), Below.refl _ _, HLC.out⟩ ?round ?done ?stop
   case own =>
    rintro pre A C' row ⟨ap, cp, ab, nb, cb, bl, h1, h2, h3, h4, h5⟩ hg hr
    exact ⟨ap, cp, ab, nb, cb, bl, h1, h2, h3, h4.grown hg (Nat.le_trans HNC.out h4.size) (fun k e => Nat.le_trans HNC.out (hr k e).1), ⟨kp_turn hg hr h5.c8, kp_turn hg hr h5.c9, kp_turn hg hr h5.c10, h5.rows.kt (fun b c f hb => kp_turn hg hr hb), ⟨h5.low.1, h5.low.2.1, h5.low.2.2.1, h5.low.2.2.2.1, Nat.le_trans h5.low.2.2.2.2 hg.size⟩, OnlyX.refl _ _, Below.refl _ _⟩⟩
   case round =>
    rintro l2 pre x Wr n0' hl2 hn0' hIr hpre hex
    have hpre2 : pre.map Prod.fst ++ [x.1] <+: es.map Prod.fst := by have := hpre; rwa [List.map_append] at this
    have hplen : pre.length ≤ 39 := by have h1 := hpre2.length_le; rw [List.length_append, List.length_singleton, List.length_map, List.length_map] at h1; omega
    obtain ⟨S, T, p1, p2, p3, sg, t1, t2, t3, n9, hl⟩ := ent_let x.1
    obtain ⟨xe, ax, cx⟩ := x
    dsimp only at hl hpre2
    unfold encE
    rw [hl.arr]
    gi_wp2
    refine ⟨(Below.refl _ _).alloc (Nat.le_refl _) _, ?_⟩
    rintro W2 ⟨ap, cp, ab, nb, cb, bl, hnb, hnb4, hbl, hbI, hlst⟩ hsame -
    have hp2 := hsame.heap (heap_alloc_new Wr (.cells #[.string S, .int .i64 p1, .int .i64 p2, .int .i64 p3, .int .i64 sg, .string T, .int .i64 t1, .int .i64 t2, .int .i64 t3, .slice ax n9 cx] 45))
    have hexW : PRow n0' W2 (.slice ax xe.choice.2.length cx, xe.choice.2) := ownsC_keep hex (fun g hg => by obtain ⟨_, cur, hc⟩ := oCk hex hg; exact (hsame.heap ((((Below.refl _ Wr).alloc (Nat.le_refl _) (.cells #[.string S, .int .i64 p1, .int .i64 p2, .int .i64 p3, .int .i64 sg, .string T, .int .i64 t1, .int .i64 t2, .int .i64 t3, .slice ax n9 cx] 45)).block g (loh hc)).trans hc)).trans hc.symm)
    have hBpz : wC.heap.size ≤ Wr.heap.size := by obtain ⟨_, _, _, _, _, _, _, _, _, h, _⟩ := hIr; exact h.size
    obtain ⟨Bp, hBp⟩ : ∃ b, Wr.heap.size = b := ⟨_, rfl⟩
    rw [hBp] at hp2 hBpz ⊢
    obtain ⟨k1, k2, k3, k4, k5, k6, k7, k8, k9, k10⟩ := least_step HRES.out hpre2 hbl
    obtain ⟨la, hla⟩ : ∃ y, y = lastS (pre.map Prod.fst) := ⟨_, rfl⟩
    rw [← hla] at hlst k1 k2 k4 k5 k6 hbl
    rw [← hl.g] at k1 k2 k3 k5 k6 k7 k8 k10
    rw [List.length_map] at k4
    have hchl : xe.choice.2.length ≤ 100000 := by
     obtain ⟨e', he', hee⟩ := List.mem_map.1 (hpre.subset (show (xe : Ent) ∈ _ by simp))
     have := HSG.out.few.2.2 e' he'
     rw [hee] at this
     exact this
    have hwr : IntKind.i64.wrap (la + 1) = la + 1 := IntWalk.i64_in _ (by omega)
    have HLA := hdL hla; have HI := hdL hbI; have HL2 := hdL hlst; have HP2 := hdL hp2; have HEX := hdL hexW; have HL := hdL hl; have HNB := hdL hnb; have HK := hdL (And.intro k5 (And.intro k6 (And.intro k7 (And.intro k8 (And.intro k9 k10))))); have HCL := hdL hchl; have HBL := hdL hbl
    obtain ⟨pc0, pc1, pc2, pc3, pc4, pc5, pc6, pc7, pc8, pc9⟩ := cells10 hp2
    have q10 := cell_of_heap hlst.c10 0
    clear hla hbI hlst hp2 hexW hl hnb k5 k6 k7 k8 k9 k10 hchl hbl hsame hex hIr hpre hpre2 hBp
    have h1n : 1 ≤ 8 - 1 - 1 := by decide
    gi_upto_if 53 with fail
    gi_cut [] from 50 (fun wx => ∃ (ab' : Option Addr) (nb' cb' : Nat) (bl' : List Pk), nb' ≤ 40 ∧ Hid (nb' = bl'.length) ∧ Hid (0 < sg → bl' = poolE (es.map Prod.fst) sg) ∧ Hid (Lst N7 W2 wx b8 b9 bX (.slice ap pre.length cp) (.slice ab' nb' cb') sg ((pre.map Prod.fst).map Ent.pkg) bl') ∧ Hid (Ch [b9, bX] W2 wx))
    case first =>
     by_cases hlt : la < sg
     ·have hlE0 := HL2.out
      obtain ⟨We0, hWe0, hbe0, hxe0, y1, y2⟩ := aBk W2 #[] 41
      obtain ⟨bE, hbE⟩ : ∃ b, W2.heap.size = b := ⟨_, rfl⟩
      rw [hbE] at hxe0
      have hlE := hlE0.below hbe0
      have hPE := (hbe0.block _ (loh HP2.out)).trans HP2.out
      have hemp := ownsC_emptyS (k := 4) (base := W2.heap.size) (by omega) hxe0
      have hsrc := ((hlE.rows.own (.slice ap pre.length cp, (pre.map Prod.fst).map Ent.pkg) (by simp)).at (by show ((pre.map Prod.fst).map Ent.pkg).length ≤ _; rw [List.length_map, List.length_map]; omega)).src
      dsimp only at hsrc
      rw [List.length_map, List.length_map] at hsrc
      obtain ⟨iP, hiP, hzP0, hzP1, hzP2⟩ := info_parts infoPkg
      have HEMP := hdL hemp; have HSRC := hdL hsrc; have HII := hdL (And.intro hiP (And.intro hzP0 (And.intro hzP1 hzP2))); have HBE0 := hdL hbe0
      have e80 := cell_of_heap hlE.c8 0
      clear pc0 pc1 pc2 pc3 pc4 pc5 pc6 pc7 pc8 pc9 q10
      have pc4 := cell_of_heap hPE 4
      clear hbe0 hxe0 hlE0 hlE hPE hemp hsrc hiP hzP0 hzP1 hzP2 y1 y2
      gi_wp2_with (first | (gi_at_builtin; refine wpListIn_append_c rfl (.tmp 54) (.tmp 55) 22 22 rfl W2.heap.size 41 iP _ 4 40 Tryz.underlying22 HII.out.1 HII.out.2.1 HII.out.2.2.1 HII.out.2.2.2 rfl (.slice (some ⟨bE, 0, none⟩) 0 0) rfl 0 _ HEMP.out (.slice ap pre.length cp) rfl pre.length _ HSRC.out (by unfold maxLen; omega) (by omega) HBE0.out.size ?_; intro aq cq Wg ho hg hw; simp only [Nat.zero_add, List.nil_append] at ho ⊢; have hbg : Below W2.heap.size W2 Wg := HBE0.out.grown hg HBE0.out.size (fun k e => (by have e2 : bE = k := (by simpa [Value.ownBlock] using e); omega)); have hrowg : PRow W2.heap.size Wg (.slice aq pre.length cq, (pre.map Prod.fst).map Ent.pkg) := (by unfold PRow; dsimp only; rw [List.length_map, List.length_map]; exact ho); obtain ⟨j9, j10, hLt⟩ := HL2.out.turnB hbg hrowg sg; have hPg := (hbg.block _ (loh HP2.out)).trans HP2.out; have hks : KP 22 Wg (Wg.setCell ⟨b9, 0, none⟩ (.slice aq pre.length cq)) := KP.set j9; have pc4 := cell_of_heap hPg 4; have r4 := cell_of_heap (hks _ _ _ _ (by decide) hPg) 4; have x9 := cell_of_heap j9 0; have x9f := foh j9; have x10 := cell_of_heap j10 0; have x10f := foh j10; have HLT := hdL hLt; have HBG := hdL hbg; have HROW := hdL hrowg; clear ho hg hw hbg hrowg hLt hPg hks j9 j10 e80) | fail)
      gi_meet
      case rel =>
       refine ⟨aq, pre.length, cq, (pre.map Prod.fst).map Ent.pkg, by omega, hdL (by rw [List.length_map, List.length_map]), hdL (fun _ => HK.out.1 hlt), HLT, hdL ?_⟩
       exact (((Ch.of_below HBG.out [b9, bX]).setCell (p := ⟨b9, 0, none⟩) (.inl (List.mem_cons_self ..)) _).setCell (p := ⟨bX, 0, none⟩) (.inl (List.mem_cons_of_mem _ (List.mem_singleton_self _))) _)
     ·gi_wp2_with fail
      gi_meet
      case rel =>
       have e : la = sg := by omega
       have h1 := HL2.out
       rw [e] at h1
       exact ⟨ab, nb, cb, bl, hnb4, HNB, hdL (fun h => HK.out.2.1 hlt h), hdL h1, hdL (Ch.refl _ _)⟩
    case rest =>
     obtain ⟨Wc, hWc⟩ : ∃ W, W = wc := ⟨_, rfl⟩
     subst hWc
     obtain ⟨ab', nb', cb', bl', hnb4', HNB', HBLE, HLc, hch⟩ := hcut
     have hBc : Below N7 wC Wc := HI.out.trans HLc.out.bel
     have hPc := (hch.out.block Bp (loh HP2.out) (fun hm => by have := HVAR.out; rcases List.mem_cons.1 hm with h | h; omega; have := List.mem_singleton.1 h; omega)).trans HP2.out
     have hEXc : PRow n0' Wc (.slice ax xe.choice.2.length cx, xe.choice.2) := ownsC_keep HEX.out (fun g hg => by obtain ⟨h1, cur, hc⟩ := oCk HEX.out hg; exact hch.out.block g (loh hc) (fun hm => by have := HVAR.out; rcases List.mem_cons.1 hm with h | h; omega; have := List.mem_singleton.1 h; omega))
     have hK6c := (hBc.block _ HNX.out.2.1).trans K6C.out
     have hREFc := (HREFC.out.keep (Keep.low hBc)).keep (Z' := zAll) ⟨fun _ _ _ => trivial, Nat.le_refl _, fun _ _ _ h => h⟩
     have HBc := hdL hBc; have HPc := hdL hPc; have HEXc := hdL hEXc; have HK6c := hdL hK6c; have HREFc := hdL hREFc
     clear hBc hPc hEXc hK6c hREFc hch pc0 pc1 pc2 pc3 pc4 pc5 pc6 pc7 pc8 pc9 q10
     by_cases hz : sg = 0
     ·subst hz
      obtain ⟨pc0, pc1, pc2, pc3, pc4, pc5, pc6, pc7, pc8, pc9⟩ := cells10 HPc.out
      obtain ⟨e60, e61⟩ := cells2 HK6c.out
      have e90 := cell_of_heap HLc.out.c9 0
      have hho := riss_any Wc zAll _ st HREFc.out xe.pkg
      rw [HK.out.2.2.1 rfl, HL.out.s, ← HL.out.p.1, ← HL.out.p.2.1, ← HL.out.p.2.2] at hho
      have HHO := hdL hho; clear hho
      gi_wp2
      refine ⟨trivial, ?_⟩
      refine (CallsIn.inRound l2 ((callsIn_wide (n := 5)).2 HHO.out)).mono ?_
      rintro e Wd ⟨rfl, hd⟩
      have hLd := HLc.out.below hd
      have hPd := (hd.block _ (loh HPc.out)).trans HPc.out
      have hin := rin2_any Wd _ _ _ ((hLd.rows.own (.slice ap pre.length cp, (pre.map Prod.fst).map Ent.pkg) (by simp)).at (by show ((pre.map Prod.fst).map Ent.pkg).length ≤ _; rw [List.length_map, List.length_map]; omega)) xe.pkg
      rw [HK.out.2.2.2.2.1, HL.out.s, ← HL.out.p.1, ← HL.out.p.2.1, ← HL.out.p.2.2] at hin
      have HLd := hdL hLd; have HPd := hdL hPd; have HIN := hdL hin
      clear hd hLd hPd hin pc0 pc1 pc2 pc3 pc4 pc5 pc6 pc7 pc8 pc9 e60 e61 e90
      obtain ⟨pc0, pc1, pc2, pc3, pc4, pc5, pc6, pc7, pc8, pc9⟩ := cells10 HPd.out
      have e80 := cell_of_heap HLd.out.c8 0
      gi_wp2
      refine ⟨trivial, ?_⟩
      gi_wp2
      refine ⟨trivial, ?_⟩
      refine (CallsIn.inRound l2 ((callsIn_wide (n := 5)).2 HIN.out)).mono ?_
      rintro e We ⟨rfl, he⟩
      have hLe := HLd.out.below he
      have hPe := (he.block _ (loh HPd.out)).trans HPd.out
      obtain ⟨Wf, hWf, hbf, hxf, y1, y2⟩ := aBk We #[.string S, .int .i64 p1, .int .i64 p2, .int .i64 p3] 41
      obtain ⟨bt, hbt⟩ : ∃ b, We.heap.size = b := ⟨_, rfl⟩
      rw [hbt] at hxf
      have hpk : (pkL xe.pkg).toArray = #[.string S, .int .i64 p1, .int .i64 p2, .int .i64 p3] := by unfold pkL; rw [HL.out.s, ← HL.out.p.1, ← HL.out.p.2.1, ← HL.out.p.2.2]
      rw [← hpk] at hxf
      have hLf := hLe.below hbf
      have hop : ownsC Wf N7 41 4 (.slice ap pre.length cp) pre.length (((pre.map Prod.fst).map Ent.pkg).flatMap pkL) := by have := hLf.rows.own _ (List.mem_cons_self ..); unfold PRow at this; dsimp only at this; rw [List.length_map, List.length_map] at this; exact this
      obtain ⟨iP, hiP, hzP0, hzP1, hzP2⟩ := info_parts infoPkg
      have HLf := hdL hLf; have HOP := hdL hop; have HSRC := hdL (src_pkb hxf); have HII := hdL (And.intro hiP (And.intro hzP0 (And.intro hzP1 hzP2)))
      clear pc0 pc1 pc2 pc3 pc4 pc5 pc6 pc7 pc8 pc9 e80
      obtain ⟨pc0, pc1, pc2, pc3, pc4, pc5, pc6, pc7, pc8, pc9⟩ := cells10 hPe
      have e80 := cell_of_heap hLe.c8 0
      clear he hLe hPe hbf hxf hpk hLf hop hiP hzP0 hzP1 hzP2 y1 y2
      gi_wp2_with (first | (gi_at_builtin; refine wpListIn_append_c rfl (.tmp 88) (.tmp 91) 22 22 rfl N7 41 iP _ 4 40 Tryz.underlying22 HII.out.1 HII.out.2.1 HII.out.2.2.1 HII.out.2.2.2 rfl (.slice ap pre.length cp) rfl pre.length _ HOP.out (.slice (some ⟨bt, 0, none⟩) 1 1) rfl 1 _ HSRC.out (by unfold maxLen; omega) (by omega) HLf.out.low.2.2.2.2 ?_; intro aq cq Wg ho hg hw; obtain ⟨g8, hLg⟩ := HLf.out.push (by rw [List.length_map, List.length_map]) hg ho hw; have x8 := cell_of_heap g8 0; have x8f := foh g8; have HLg := hdL hLg; clear ho hg hw hLg g8) | fail)
      have hla2 : lastS ((pre ++ [(xe, (ax, cx))]).map Prod.fst) = 0 := by rw [List.map_append]; exact HK.out.2.2.2.2.2
      refine ⟨HLg.out.ox.rnd, aq, cq, ab', nb', cb', bl', HNB'.out, hnb4', ?_, HI.out.trans HLg.out.bel, ?_⟩
      ·rw [hla2]; exact HBLE.out
      ·rw [hla2, List.length_append, List.length_singleton, List.map_append, List.map_append (f := Ent.pkg)]; exact HLg.out.base
     ·obtain ⟨pc0, pc1, pc2, pc3, pc4, pc5, pc6, pc7, pc8, pc9⟩ := cells10 HPc.out
      obtain ⟨e60, e61⟩ := cells2 HK6c.out
      have e90 := cell_of_heap HLc.out.c9 0
      have hb0 : ((sg : Int) == 0) = false := by simp; exact hz
      have hsp : 0 < sg := by omega
      have hho := rholds_any Wc _ st HREFc.out xe.pkg _ _ (((HLc.out.rows.own (.slice ab' nb' cb', bl') (by simp)).at (by show bl'.length ≤ _; rw [← HNB'.out]; omega)).keep (Z' := zAll) ⟨fun _ _ _ => trivial, Nat.le_refl _, fun _ _ _ h => h⟩) xe.choice.1 xe.choice.2 (.slice ax xe.choice.2.length cx) ((PRow.at HEXc.out (by show xe.choice.2.length ≤ _; have := HCL.out; omega)).keep (Z' := zAll) ⟨fun _ _ _ => trivial, Nat.le_refl _, fun _ _ _ h => h⟩) HCL.out
      rw [HBLE.out hsp, show (xe.choice.1, xe.choice.2) = xe.choice from rfl, HK.out.2.2.2.1 hsp] at hho
      dsimp only at hho
      rw [HL.out.s, ← HL.out.p.1, ← HL.out.p.2.1, ← HL.out.p.2.2, HL.out.t, ← HL.out.c.1, ← HL.out.c.2.1, ← HL.out.c.2.2, ← HL.out.n] at hho
      have HHO := hdL hho; clear hho
      gi_wp2
      refine ⟨trivial, ?_⟩
      gi_wp2
      refine ⟨trivial, ?_⟩
      refine (CallsIn.inRound l2 ((callsIn_wide (n := 5)).2 HHO.out)).mono ?_
      rintro e Wd ⟨rfl, hd⟩
      have hLd := HLc.out.below hd
      have hPd := (hd.block _ (loh HPc.out)).trans HPc.out
      have hin := rin2_any Wd _ _ _ ((hLd.rows.own (.slice ap pre.length cp, (pre.map Prod.fst).map Ent.pkg) (by simp)).at (by show ((pre.map Prod.fst).map Ent.pkg).length ≤ _; rw [List.length_map, List.length_map]; omega)) xe.pkg
      rw [HK.out.2.2.2.2.1, HL.out.s, ← HL.out.p.1, ← HL.out.p.2.1, ← HL.out.p.2.2] at hin
      have HLd := hdL hLd; have HPd := hdL hPd; have HIN := hdL hin
      clear hd hLd hPd hin pc0 pc1 pc2 pc3 pc4 pc5 pc6 pc7 pc8 pc9 e60 e61 e90
      obtain ⟨pc0, pc1, pc2, pc3, pc4, pc5, pc6, pc7, pc8, pc9⟩ := cells10 HPd.out
      have e80 := cell_of_heap HLd.out.c8 0
      gi_wp2
      refine ⟨trivial, ?_⟩
      refine (CallsIn.inRound l2 ((callsIn_wide (n := 5)).2 HIN.out)).mono ?_
      rintro e We ⟨rfl, he⟩
      have hLe := HLd.out.below he
      have hPe := (he.block _ (loh HPd.out)).trans HPd.out
      obtain ⟨Wf, hWf, hbf, hxf, y1, y2⟩ := aBk We #[.string S, .int .i64 p1, .int .i64 p2, .int .i64 p3] 41
      obtain ⟨bt, hbt⟩ : ∃ b, We.heap.size = b := ⟨_, rfl⟩
      rw [hbt] at hxf
      have hpk : (pkL xe.pkg).toArray = #[.string S, .int .i64 p1, .int .i64 p2, .int .i64 p3] := by unfold pkL; rw [HL.out.s, ← HL.out.p.1, ← HL.out.p.2.1, ← HL.out.p.2.2]
      rw [← hpk] at hxf
      have hLf := hLe.below hbf
      have hop : ownsC Wf N7 41 4 (.slice ap pre.length cp) pre.length (((pre.map Prod.fst).map Ent.pkg).flatMap pkL) := by have := hLf.rows.own _ (List.mem_cons_self ..); unfold PRow at this; dsimp only at this; rw [List.length_map, List.length_map] at this; exact this
      obtain ⟨iP, hiP, hzP0, hzP1, hzP2⟩ := info_parts infoPkg
      have HLf := hdL hLf; have HOP := hdL hop; have HSRC := hdL (src_pkb hxf); have HII := hdL (And.intro hiP (And.intro hzP0 (And.intro hzP1 hzP2)))
      clear pc0 pc1 pc2 pc3 pc4 pc5 pc6 pc7 pc8 pc9 e80
      obtain ⟨pc0, pc1, pc2, pc3, pc4, pc5, pc6, pc7, pc8, pc9⟩ := cells10 hPe
      have e80 := cell_of_heap hLe.c8 0
      clear he hLe hPe hbf hxf hpk hLf hop hiP hzP0 hzP1 hzP2 y1 y2
      gi_wp2_with (first | (gi_at_builtin; refine wpListIn_append_c rfl (.tmp 88) (.tmp 91) 22 22 rfl N7 41 iP _ 4 40 Tryz.underlying22 HII.out.1 HII.out.2.1 HII.out.2.2.1 HII.out.2.2.2 rfl (.slice ap pre.length cp) rfl pre.length _ HOP.out (.slice (some ⟨bt, 0, none⟩) 1 1) rfl 1 _ HSRC.out (by unfold maxLen; omega) (by omega) HLf.out.low.2.2.2.2 ?_; intro aq cq Wg ho hg hw; obtain ⟨g8, hLg⟩ := HLf.out.push (by rw [List.length_map, List.length_map]) hg ho hw; have x8 := cell_of_heap g8 0; have x8f := foh g8; have HLg := hdL hLg; clear ho hg hw hLg g8) | fail)
      have hla2 : lastS ((pre ++ [(xe, (ax, cx))]).map Prod.fst) = sg := by rw [List.map_append]; exact HK.out.2.2.2.2.2
      refine ⟨HLg.out.ox.rnd, aq, cq, ab', nb', cb', bl', HNB'.out, hnb4', ?_, HI.out.trans HLg.out.bel, ?_⟩
      ·rw [hla2]; exact HBLE.out
      ·rw [hla2, List.length_append, List.length_singleton, List.map_append, List.map_append (f := Ent.pkg)]; exact HLg.out.base
   case stop =>
    rintro D c9 pre V hD hp hx hK
    exact hx.elim
   case done =>
    rintro D ys V hD hS ⟨ap, cp, ab, nb, cb, bl, -, -, -, hbI, hlst⟩ hK
    have hpl : (ys.map Prod.fst).map Ent.pkg = (es.map Prod.fst).map Ent.pkg := by rw [hS]
    have hyl : ys.length = es.length := by have := congrArg List.length hS; rwa [List.length_map, List.length_map] at this
    rw [hpl, hyl] at hlst
    obtain ⟨nP, hnP⟩ : ∃ n, n = es.length := ⟨_, rfl⟩
    rw [← hnP] at hlst
    have hsgV := HSGC.out.keep (Keep.low hbI)
    have hrefV := (HREFC.out.keep (Keep.low hbI)).keep (Z' := zAll) ⟨fun _ _ _ => trivial, Nat.le_refl _, fun _ _ _ h => h⟩
    have hk6V := (hbI.block _ HNX.out.2.1).trans K6C.out
    have hg4V := (hbI.block _ HNX.out.2.2.1).trans G4C.out
    have hpoolV : PkgsAt zAll V (.slice ap nP cp) ((es.map Prod.fst).map Ent.pkg) := ((hlst.rows.own _ (List.mem_cons_self ..)).at (by show ((es.map Prod.fst).map Ent.pkg).length ≤ _; rw [List.length_map, List.length_map]; omega)).keep ⟨fun _ _ _ => trivial, Nat.le_refl _, fun _ _ _ h => h⟩
    have HSV := hdL hsgV; have HRV := hdL hrefV; have HK6V := hdL hk6V; have HG4V := hdL hg4V; have HPV := hdL hpoolV; have HC8 := hdL hlst.c8; have HKD := hdL hK; have HBV := hdL (HBWC.out.trans (hbI.mono (by have := HNX.out.2.2.2; omega))); have HND := hdL (show wC.heap.size ≤ D from hD); have HNP := hdL hnP; have HNV := hdL (Nat.le_trans HNC.out hbI.size)
    clear hsgV hrefV hk6V hg4V hpoolV hlst hK hbI hpl hyl hS hnP
    have HSL := hdL (sless_any V _ Tb es l m HSV.out)
    go_wp2_with fail
    refine HSL.out.mono ?_
    rintro e V1 ⟨al, cl, rfl, hrl, hv1⟩
    have hplV := hrl.at (by show l.length ≤ _; omega)
    obtain ⟨nl, hnl⟩ : ∃ n, n = l.length := ⟨_, rfl⟩
    dsimp only at hplV
    rw [← hnl] at hplV hrl ⊢
    have HPL := hdL hplV; have HV1 := hdL hv1; have HNL := hdL hnl
    clear hplV hrl hv1 hnl
    have hnl4 : nl ≤ 40 := by rw [HNL.out]; omega
    go_wp2_with fail
    go_loopw [96] (fun i wr => ∃ k : Nat, i = .int .i64 k ∧ k ≤ nl ∧ Hid (Below V1.heap.size V1 wr)) (fun i _ => nl - (intOf i).toNat)
    case atStart => exact ⟨0, rfl, Nat.zero_le _, hdL (Below.refl _ _)⟩
    case round =>
     obtain ⟨k, rfl, hk, hbw⟩ := hrel
     obtain ⟨W0, hW0⟩ : ∃ W, W = wr := ⟨_, rfl⟩
     subst hW0
     have hbV : Below V.heap.size V W0 := HV1.out.trans (hbw.out.mono HV1.out.size)
     have HV0 := hdL hbV; have K60 := hdL ((hbV.block _ (loh HK6V.out)).trans HK6V.out); have C80 := hdL ((hbV.block _ (loh HC8.out)).trans HC8.out)
     clear hbV
     by_cases hlt : k < nl
     ·obtain ⟨q, hq⟩ : ∃ q, l[k]? = some q := ⟨_, List.getElem?_eq_getElem (by rw [← HNL.out]; exact hlt)⟩
      obtain ⟨h1, -, h3, -, h5⟩ := HRES.out.misses (List.mem_of_getElem? hq)
      obtain ⟨bQ, oQ, S, rfl, hS, f0, f1, f2, f3⟩ := (HPL.out.below hbw.out).cells hq
      obtain ⟨q1, hq1⟩ : ∃ y, y = q.2.1 := ⟨_, rfl⟩
      obtain ⟨q2, hq2⟩ : ∃ y, y = q.2.2.1 := ⟨_, rfl⟩
      obtain ⟨q3, hq3⟩ : ∃ y, y = q.2.2.2 := ⟨_, rfl⟩
      rw [← hq1] at f1; rw [← hq2] at f2; rw [← hq3] at f3
      obtain ⟨Wp, hWp, hbp, hxp, y1, y2⟩ := aBk W0 #[.string S, .int .i64 q1, .int .i64 q2, .int .i64 q3] 41
      obtain ⟨bp, hbpe⟩ : ∃ b, W0.heap.size = b := ⟨_, rfl⟩
      rw [hbpe] at hxp
      have hVp : Below V.heap.size V Wp := HV0.out.trans (hbp.mono HV0.out.size)
      have hso := rsolve_any Wp _ st (HRV.out.below hVp) (by have := HFEW.out; omega) (by have := HFEW.out; omega) HGD.out q _ _ (HPV.out.below hVp) 600 (by decide)
      obtain ⟨⟨⟨t, ch⟩, nD, e0⟩, hres⟩ : ∃ r, solveT st q ((es.map Prod.fst).map Ent.pkg) 600 = r := ⟨_, rfl⟩
      have he0 := h5 600 _ _ _ hres
      rw [hres] at hso
      rw [hS, ← hq1, ← hq2, ← hq3] at hso
      have hinn : inP ((es.map Prod.fst).map Ent.pkg) q = false := by
       cases hi : inP ((es.map Prod.fst).map Ent.pkg) q with
       | false => rfl
       | true => exact absurd (inP_iff.1 hi) h3
      have hin := fun W (hW : Below Wp.heap.size Wp W) => rin2_any W _ _ _ ((HPV.out.below hVp).below hW) q
      rw [hinn, hS, ← hq1, ← hq2, ← hq3] at hin
      have hha := fun W (hW : Below Wp.heap.size Wp W) => rhas2_any W zAll _ st ((HRV.out.below hVp).below hW) q
      rw [h1, hS, ← hq1, ← hq2, ← hq3] at hha
      obtain ⟨pc0, pc1, pc2, pc3⟩ := cells4 hxp
      obtain ⟨m0, m1⟩ := cells2 ((hbp.block _ (loh K60.out)).trans K60.out)
      have e8 := cell_of_heap ((hbp.block _ (loh C80.out)).trans C80.out) 0
      have HXP := hdL hxp; have HSO := hdL hso; have HIN := hdL hin; have HHA := hdL hha; have K6p := hdL ((hbp.block _ (loh K60.out)).trans K60.out); have C8p := hdL ((hbp.block _ (loh C80.out)).trans C80.out); have HBP := hdL (hbw.out.trans (hbp.mono hbw.out.size))
      clear hq h1 h3 h5 hS hq1 hq2 hq3 hbp hxp hVp hso hres hinn hin hha y1 y2
      go_wp2_with fail
      refine HSO.out.mono ?_
      rintro e Wq ⟨hq7, sT, a, kc, hsT, rfl, -⟩
      dsimp only
      obtain ⟨Wr8, hWr8, hb8', hx8', y1, y2⟩ := aBk Wq #[.string sT, .int .i64 t.2.1, .int .i64 t.2.2.1, .int .i64 t.2.2.2, .slice a ch.length kc] 43
      have h78 := hq7.trans (hb8'.mono hq7.size)
      have HI8 := hdL (HIN.out _ h78)
      obtain ⟨r0, r1, r2, r3⟩ := cells4 ((h78.block _ (loh HXP.out)).trans HXP.out)
      have e8' := cell_of_heap ((h78.block _ (loh C8p.out)).trans C8p.out) 0
      have H78 := hdL h78
      clear hq7 hb8' hx8' h78 hsT y1 y2 pc0 pc1 pc2 pc3 m0 m1 e8
      go_wp2_with fail
      refine HI8.out.mono ?_
      rintro e Ws ⟨rfl, hs⟩
      have h79 := H78.out.trans (hs.mono H78.out.size)
      have HH9 := hdL (HHA.out _ h79)
      obtain ⟨pc0, pc1, pc2, pc3⟩ := cells4 ((h79.block _ (loh HXP.out)).trans HXP.out)
      obtain ⟨m0, m1⟩ := cells2 ((h79.block _ (loh K6p.out)).trans K6p.out)
      have H79 := hdL h79
      clear hs h79 r0 r1 r2 r3 e8'
      go_wp2_with fail
      refine HH9.out.mono ?_
      rintro e Wt ⟨rfl, ht⟩
      have HB9' := hdL (HBP.out.trans ((H79.out.trans (ht.mono H79.out.size)).mono HBP.out.size))
      clear ht
      rcases he0 with rfl | rfl
      ·go_wp2_with fail
       go_roundw
       case rel => exact ⟨k + 1, by go_num, hlt, HB9'⟩
       case measure => simp [intOf]; omega
      ·go_wp2_with fail
       go_roundw
       case rel => exact ⟨k + 1, by go_num, hlt, HB9'⟩
       case measure => simp [intOf]; omega
     ·obtain rfl : k = nl := by omega
      obtain ⟨nA, hnA⟩ : ∃ n, n = st.all.length := ⟨_, rfl⟩
      have hsum : ((nP : Int) + (k : Int)) = (nA : Int) := by have := HRES.out.len; rw [List.length_map] at this; have := HNP.out; have := HNL.out; omega
      have hwr2 : IntKind.i64.wrap ((nP : Int) + (k : Int)) = nA := by rw [IntWalk.i64_in _ (by have := HNP.out; omega)]; exact hsum
      have hls := fun W (hW : Below W0.heap.size W0 W) => sless_any W _ Tb es l m ((HSV.out.below HV0.out).below hW)
      have hal := fun W (hW : Below W0.heap.size W0 W) => rall_any W zAll _ st ((HRV.out.below HV0.out).below hW) (by have := HFEW.out; omega) (by have := HFEW.out; omega)
      rw [← HNL.out] at hls
      have hS10 : ∀ W, Below W0.heap.size W0 W → (fun W : World => W.cell? ⟨b8, 0, none⟩ = some (.slice ap nP cp) ∧ W.cell? ⟨b6, 0, none⟩ = some (.slice a1 n1 c1) ∧ W.cell? ⟨b6, 1, none⟩ = some (.slice a2 n2 c2)) W := fun W hW => ⟨bkp hW _ _ (cell_of_heap C80.out 0), bkp hW _ _ (cell_of_heap K60.out 0), bkp hW _ _ (cell_of_heap K60.out 1)⟩
      have hbd := (Below.refl W0.heap.size W0).drew
      have HLS := hdL hls; have HAL := hdL hal; have HS10 := hdL hS10; have HNA := hdL hnA; have HWR2 := hdL hwr2
      clear hls hal hS10 hsum hnA hwr2
      go_upto_region 31 with fail
      refine wp_noP ?_
      refine UpV.start [(10, fun W : World => W.cell? ⟨b8, 0, none⟩ = some (.slice ap nP cp) ∧ W.cell? ⟨b6, 0, none⟩ = some (.slice a1 n1 c1) ∧ W.cell? ⟨b6, 1, none⟩ = some (.slice a2 n2 c2))] (by kernel_rfl) ?_
      have hA0 : ∀ q ∈ ([(10, fun W : World => W.cell? ⟨b8, 0, none⟩ = some (.slice ap nP cp) ∧ W.cell? ⟨b6, 0, none⟩ = some (.slice a1 n1 c1) ∧ W.cell? ⟨b6, 1, none⟩ = some (.slice a2 n2 c2))] : List (Nat × (World → Prop))), q.2 W0.drew := by
       intro q hq
       obtain rfl := List.mem_singleton.1 hq
       exact HS10.out _ hbd
      refine UpV.take 0 10 (v := .slice ap nP cp) rfl (List.mem_cons_self ..) (by kernel_rfl) (by kernel_rfl) (by kernel_rfl) (by kernel_rfl) (by kernel_rfl) (fun _ _ _ h => h) (Or.inl ⟨by rfl, ?_⟩) (owe_all hA0) ?_
      ·intro w hSw; obtain ⟨s0, s1, s2⟩ := hSw; go_simp
      try simp only [Act.put, sqA, sqB, sqC, List.getElem_toArray, List.getElem_cons_zero, List.getElem_cons_succ]
      refine UpV.takeP 1 (v := .int .i64 nP) rfl (by kernel_rfl) (by kernel_rfl) (by kernel_rfl) (by kernel_rfl) (fun _ _ _ h => h) (Or.inl ⟨by rfl, ?_⟩) (owe_all hA0) ?_
      ·intro w hSw; first | rfl | ((try simp only [List.getElem_toArray, List.getElem_cons_zero, List.getElem_cons_succ]); go_simp; done) | ((try simp only [List.getElem_toArray, List.getElem_cons_zero, List.getElem_cons_succ]); go_simp; simp [HWR2.out])
      try simp only [Act.put, sqA, sqB, sqC, List.getElem_toArray, List.getElem_cons_zero, List.getElem_cons_succ]
      refine UpV.takeP 2 (v := .pointer (some ⟨Tb, 0, none⟩)) rfl (by kernel_rfl) (by kernel_rfl) (by kernel_rfl) (by kernel_rfl) (fun _ _ _ h => h) (Or.inl ⟨by rfl, ?_⟩) (owe_all hA0) ?_
      ·intro w hSw; first | rfl | ((try simp only [List.getElem_toArray, List.getElem_cons_zero, List.getElem_cons_succ]); go_simp; done) | ((try simp only [List.getElem_toArray, List.getElem_cons_zero, List.getElem_cons_succ]); go_simp; simp [HWR2.out])
      try simp only [Act.put, sqA, sqB, sqC, List.getElem_toArray, List.getElem_cons_zero, List.getElem_cons_succ]
      refine UpV.take 6 10 (v := .agg #[.slice a1 n1 c1, .slice a2 n2 c2]) rfl (List.mem_cons_self ..) (by kernel_rfl) (by kernel_rfl) (by kernel_rfl) (by kernel_rfl) (by kernel_rfl) (fun _ _ _ h => h) (Or.inl ⟨by rfl, ?_⟩) (owe_all hA0) ?_
      ·intro w hSw; obtain ⟨s0, s1, s2⟩ := hSw; go_simp
      try simp only [Act.put, sqA, sqB, sqC, List.getElem_toArray, List.getElem_cons_zero, List.getElem_cons_succ]
      refine UpV.one 3 (by kernel_rfl) rfl ?_
      intro K hK
      try simp only [List.getElem_toArray, List.getElem_cons_zero, List.getElem_cons_succ]
      try go_simp
      go_at_call 21
      refine (HLS.out _ hbd).mono ?_
      rintro e Wa ⟨al2, cl2, rfl, -, hWa⟩
      have HBa := hdL ((hbd).trans (hWa.mono (hbd).size)); clear hWa
      try go_simp
      refine hK.out _ _ (owe1 (fun _ => HS10.out _ HBa.out)) ?_
      clear hK K
      try simp only [Act.put, sqA, sqB, sqC, List.getElem_toArray, List.getElem_cons_zero, List.getElem_cons_succ]
      refine UpV.takeP 4 (v := .int .i64 k) rfl (by kernel_rfl) (by kernel_rfl) (by kernel_rfl) (by kernel_rfl) (fun _ _ _ h => h) (Or.inl ⟨by rfl, ?_⟩) (owe1 (fun _ => HS10.out _ HBa.out)) ?_
      ·intro w hSw; first | rfl | ((try simp only [List.getElem_toArray, List.getElem_cons_zero, List.getElem_cons_succ]); go_simp; done) | ((try simp only [List.getElem_toArray, List.getElem_cons_zero, List.getElem_cons_succ]); go_simp; simp [HWR2.out])
      try simp only [Act.put, sqA, sqB, sqC, List.getElem_toArray, List.getElem_cons_zero, List.getElem_cons_succ]
      refine UpV.takeP 5 (v := .int .i64 nA) rfl (by kernel_rfl) (by kernel_rfl) (by kernel_rfl) (by kernel_rfl) (fun _ _ _ h => h) (Or.inl ⟨by rfl, ?_⟩) (owe1 (fun _ => HS10.out _ HBa.out)) ?_
      ·intro w hSw; first | rfl | ((try simp only [List.getElem_toArray, List.getElem_cons_zero, List.getElem_cons_succ]); go_simp; done) | ((try simp only [List.getElem_toArray, List.getElem_cons_zero, List.getElem_cons_succ]); go_simp; simp [HWR2.out])
      try simp only [Act.put, sqA, sqB, sqC, List.getElem_toArray, List.getElem_cons_zero, List.getElem_cons_succ]
      refine UpV.one 7 (by kernel_rfl) rfl ?_
      intro K hK
      try simp only [List.getElem_toArray, List.getElem_cons_zero, List.getElem_cons_succ]
      try go_simp
      go_at_call 24
      refine (HAL.out _ HBa.out).mono ?_
      rintro e Wb ⟨vA, rfl, hra, hWb⟩
      obtain ⟨aA, cA, rfl⟩ := hra.form
      rw [← HNA.out]
      have HBb := hdL ((HBa.out).trans (hWb.mono (HBa.out).size)); clear hWb hra
      try go_simp
      refine hK.out _ _ (owe1 (fun _ => HS10.out _ HBb.out)) ?_
      clear hK K
      try simp only [Act.put, sqA, sqB, sqC, List.getElem_toArray, List.getElem_cons_zero, List.getElem_cons_succ]
      refine UpV.takeP 8 (v := .int .i64 nA) rfl (by kernel_rfl) (by kernel_rfl) (by kernel_rfl) (by kernel_rfl) (fun _ _ _ h => h) (Or.inl ⟨by rfl, ?_⟩) (owe1 (fun _ => HS10.out _ HBb.out)) ?_
      ·intro w hSw; first | rfl | ((try simp only [List.getElem_toArray, List.getElem_cons_zero, List.getElem_cons_succ]); go_simp; done) | ((try simp only [List.getElem_toArray, List.getElem_cons_zero, List.getElem_cons_succ]); go_simp; simp [HWR2.out])
      try simp only [Act.put, sqA, sqB, sqC, List.getElem_toArray, List.getElem_cons_zero, List.getElem_cons_succ]
      refine UpV.takeP 9 (v := .bool true) rfl (by kernel_rfl) (by kernel_rfl) (by kernel_rfl) (by kernel_rfl) (fun _ _ _ h => h) (Or.inl ⟨by rfl, ?_⟩) (owe1 (fun _ => HS10.out _ HBb.out)) ?_
      ·intro w hSw; first | rfl | ((try simp only [List.getElem_toArray, List.getElem_cons_zero, List.getElem_cons_succ]); go_simp; done) | ((try simp only [List.getElem_toArray, List.getElem_cons_zero, List.getElem_cons_succ]); go_simp; simp [HWR2.out])
      try simp only [Act.put, sqA, sqB, sqC, List.getElem_toArray, List.getElem_cons_zero, List.getElem_cons_succ]
      have hg4 := (HBb.out.block _ (loh ((HV0.out.block _ (loh HG4V.out)).trans HG4V.out))).trans ((HV0.out.block _ (loh HG4V.out)).trans HG4V.out)
      have z0 := cell_of_heap hg4 0
      have zf := foh hg4
      refine UpV.one 10 (by kernel_rfl) rfl ?_
      intro K hK
      try simp only [List.getElem_toArray, List.getElem_cons_zero, List.getElem_cons_succ]
      try go_simp
      refine hK.out _ _ (owe1 (fun h => (by cases h))) ?_
      clear hK K
      try simp only [Act.put, sqA, sqB, sqC, List.getElem_toArray, List.getElem_cons_zero, List.getElem_cons_succ]
      refine UpV.done (by kernel_rfl) ?_
      refine NoP.go ?_
      have k0' := one_cellB (.bool true) hg4
      have hDk : V.heap[D]? = some (.deferred (some [])) := HKD.out
      have hDW : Wb.heap[D]? = some (.deferred (some [])) := (HBb.out.block _ (loh ((HV0.out.block _ (loh hDk)).trans hDk))).trans ((HV0.out.block _ (loh hDk)).trans hDk)
      have hDb : b4 < D := by have := HNX.out; have := HNC.out; have := HND.out; omega
      have HBF := hdL (HBV.out.trans ((HV0.out.trans (HBb.out.mono HV0.out.size)).mono HBV.out.size))
      have HDW := hdL hDW; have K0' := hdL k0'; clear hDk hDW hg4 z0 zf k0'
      go_wp2_with fail
      have hset : (Wb.setCell ⟨b4, 0, none⟩ (.bool true)).heap[D]? = some (.deferred (some [])) := (Below.heap_setCell _ _ _ _ (by simp; omega)).trans HDW.out
      have k1 : ((Wb.setCell ⟨b4, 0, none⟩ (.bool true)).putObj D (.deferred none)).cell? ⟨b4, 0, none⟩ = some (.bool true) := (World.cell?_of_block (World.putObj_heap_other (by simp; omega))).trans K0'.out
      refine marks_ret1 (v := .bool true) rfl hset (by simp [results, Tryz.results3, go_sem, k1]) ⟨rfl, ?_⟩
      have f2 := HBF.out.setCell (p := ⟨b4, 0, none⟩) HSZ.out.1 (.bool true)
      have f3 := f2.grown (grownBy_putObj' _ D (.deferred none)) f2.size (fun k e => by have := HSZ.out; obtain rfl : D = k := Option.some.inj e; omega)
      first | exact f3 | (rw [hb2e] at f3; exact f3)
  ·have k6 : e0 = 60 := by rcases HQ1.out with ⟨-, h, -⟩ | ⟨_, _, _, _, -, h, -⟩; exact h; exact absurd h k0
   subst k6
   have z0 := cell_of_heap G47.out 0
   have zf := foh G47.out
   have r0 := one_cellB (.bool true) G47.out
   go_wp2_with fail
   refine marks_ret0 (v := .bool true) (by simp [results, Tryz.results3, go_sem, r0]) rfl ⟨rfl, ?_⟩
   first | exact (HB7.out).setCell (p := ⟨b4, 0, none⟩) HSZ.out.1 _ | (have hq := (HB7.out).setCell (p := ⟨b4, 0, none⟩) HSZ.out.1 (.bool true); rw [hb2e] at hq; exact hq)
end Go.Proofs.YtaagkndhgicifaaGreat
