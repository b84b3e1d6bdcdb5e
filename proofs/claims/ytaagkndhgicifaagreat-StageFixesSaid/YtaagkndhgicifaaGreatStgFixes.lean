/- DERIVED. Fix answers what the document says: StageFixes, walked. (Printed by stfixesgen.py.) -/
import Derived.Sort.CutIn
import Derived.Test.YtaagkndhgicifaaGreatStgOpt
import Derived.Test.YtaagkndhgicifaaGreatSv11
namespace Go.Proofs.YtaagkndhgicifaaGreat
open Go.RowKit Go.Shelf
attribute [local go_sem] Oper.semAt_some
set_option linter.unusedVariables false
set_option linter.unusedSimpArgs false
set_option maxRecDepth 100000
set_option maxHeartbeats 32000000 in
theorem fixes_any (w : World) (v1 v2 : Value) (x : Pack) (hx : PackAt w v1 v2 x) (left : Int) (q : Pk) : Calls Tryz.prog 7 #[.agg #[v1, v2], .int .i64 left, .agg #[strV q.1, .int .i64 q.2.1, .int .i64 q.2.2.1, .int .i64 q.2.2.2]] w (fun e w' => e = .returned (.bool true) ∧ Below w.heap.size w w') := by
 obtain ⟨a0, c0, rfl, -⟩ := id hx.1
 obtain ⟨a5, c5, rfl, -⟩ := id hx.2.2
 obtain ⟨P, -, hP, -, -⟩ := strV_is q.1
 obtain ⟨n0, hn0⟩ : ∃ z, z = x.seeds.length := ⟨_, rfl⟩
 obtain ⟨n5, hn5⟩ : ∃ z, z = x.recs.length := ⟨_, rfl⟩
 obtain ⟨u1, hu1⟩ : ∃ z, z = q.2.1 := ⟨_, rfl⟩
 obtain ⟨u2, hu2⟩ : ∃ z, z = q.2.2.1 := ⟨_, rfl⟩
 obtain ⟨u3, hu3⟩ : ∃ z, z = q.2.2.2 := ⟨_, rfl⟩
 rw [← hn0, ← hn5] at hx; rw [← hn0, ← hn5, hP, ← hu1, ← hu2, ← hu3]
 obtain ⟨w1, hw1, hb1, hx1, y1, y2⟩ := aBk w #[.slice a0 n0 c0, .slice a5 n5 c5] 25
 obtain ⟨w2, hw2, hb2, hx2, y3, y4⟩ := aBk w1 #[.string P, .int .i64 u1, .int .i64 u2, .int .i64 u3] 41
 obtain ⟨w3, hw3, hb3, hx3, y5, y6⟩ := aBk w2 #[.bool false] 4
 obtain ⟨b2, hb2e⟩ : ∃ b, w.heap.size = b := ⟨_, rfl⟩
 obtain ⟨b3, hb3e⟩ : ∃ b, w1.heap.size = b := ⟨_, rfl⟩
 obtain ⟨b4, hb4e⟩ : ∃ b, w2.heap.size = b := ⟨_, rfl⟩
 have hb12 := hb1.trans (hb2.mono hb1.size)
 have hb13 := hb12.trans (hb3.mono hb12.size)
 have g1 := (hb3.block _ (by omega)).trans ((hb2.block _ (by omega)).trans hx1)
 have g2 := (hb3.block _ (by omega)).trans hx2
 rw [hb2e] at g1; rw [hb3e] at g2; rw [hb4e] at hx3
 have G23 := hdL g1; have G33 := hdL g2; have G43 := hdL hx3; have HB3 := hdL hb13; have HX := hdL hx; have HQP := hdL (And.intro hP (And.intro hu1 (And.intro hu2 hu3))); have HSZ := hdL (show w.heap.size ≤ b4 ∧ b4 < w3.heap.size ∧ b3 < w3.heap.size from by omega)
 clear hx hn0 hn5 hP hu1 hu2 hu3 hb1 hb2 hb3 hb12 hb13 hx1 hx2 hx3 g1 g2 y1 y2 y3 y4 y5 y6
 refine calls_of_wp_marks Tryz.func7 rfl ?_
 simp only [Tryz.ntmps7, List.size_toArray, List.length_cons, List.length_nil, Nat.reduceAdd, Nat.reduceSub, Array.replicate_succ, Array.replicate_zero, List.push_toArray, List.append_toArray, List.nil_append, List.cons_append]
 go_wp2_with fail
 refine (alive_any w3).mono ?_
 rintro e w4 ⟨rfl, h4⟩
 have G24 := hdL ((h4.block _ (loh G23.out)).trans G23.out); have G34 := hdL ((h4.block _ (loh G33.out)).trans G33.out); have G44 := hdL ((h4.block _ (loh G43.out)).trans G43.out)
 have HB4 := hdL (HB3.out.trans (h4.mono HB3.out.size))
 clear h4
 obtain ⟨k0, k1⟩ := cells2 G24.out
 have HBG := hdL (begun_any w4 _ _ x (HX.out.below HB4.out))
 go_wp2_with fail
 refine HBG.out.mono ?_
 rintro e w5 ⟨h5, B, a1, n1, c1, a2, n2, c2, ok, rfl, hok⟩
 obtain ⟨w6, hw6, hb6, hx6, y1, y2⟩ := aBk w5 #[.slice a1 n1 c1, .slice a2 n2 c2] 28
 obtain ⟨b6, hb6e⟩ : ∃ b, w5.heap.size = b := ⟨_, rfl⟩
 rw [hb6e] at hx6
 have h46 := h5.trans (hb6.mono h5.size)
 have G36 := hdL ((h46.block _ (loh G34.out)).trans G34.out); have G46 := hdL ((h46.block _ (loh G44.out)).trans G44.out)
 have HB6 := hdL (HB4.out.trans (h46.mono HB4.out.size)); have HX6 := hdL hx6; have HB56 := hdL hb6
 clear h5 hb6 h46 hx6 y1 y2 k0 k1
 cases ok
 ·have z0 := cOh G46.out 0
  have zf := foh G46.out
  have r0 := one_cellB (.bool true) G46.out
  go_wp2_with fail
  refine marks_ret0 (v := .bool true) (by simp [results, Tryz.results7, go_sem, r0]) rfl ⟨rfl, ?_⟩
  first | exact (HB6.out).setCell (p := ⟨b4, 0, none⟩) HSZ.out.1 _ | (have hq := (HB6.out).setCell (p := ⟨b4, 0, none⟩) HSZ.out.1 (.bool true); rw [hb2e] at hq; exact hq)
 ·by_cases hl6 : 600 < left
  ·have z0 := cOh G46.out 0
   have zf := foh G46.out
   have r0 := one_cellB (.bool true) G46.out
   go_wp2_with fail
   refine marks_ret0 (v := .bool true) (by simp [results, Tryz.results7, go_sem, r0]) rfl ⟨rfl, ?_⟩
   first | exact (HB6.out).setCell (p := ⟨b4, 0, none⟩) HSZ.out.1 _ | (have hq := (HB6.out).setCell (p := ⟨b4, 0, none⟩) HSZ.out.1 (.bool true); rw [hb2e] at hq; exact hq)
  obtain ⟨st, F, hbeg⟩ := hok rfl
  have hbe6 := hbeg.below HB56.out
  have HBE := hdL hbe6
  clear hok hbeg hbe6
  have HF1 := hdL (fix_any w6 B F st HBE.out.stk left (by omega))
  go_wp2_with fail
  refine HF1.out.mono ?_
  intro e w7 hfp
  obtain ⟨h7, po, e0, rfl, hq1⟩ := hfp.q
  have G37 := hdL ((h7.block _ (loh G36.out)).trans G36.out); have G47 := hdL ((h7.block _ (loh G46.out)).trans G46.out)
  have hx67 := (h7.block _ (loh HX6.out)).trans HX6.out
  have href7 : RefAt zAll w7 _ st := (HBE.out.ref.below h7).keep (Z' := zAll) ⟨fun _ _ _ => trivial, Nat.le_refl _, fun _ _ _ h => h⟩
  have HQ1 := hdL hq1; have HX67 := hdL hx67; have HB7 := hdL (HB6.out.trans (h7.mono HB6.out.size)); have HRF := hdL (rfix_any w7 _ st href7 HBE.out.few.1 HBE.out.few.2 HBE.out.good left (by omega))
  clear hfp h7 hq1 hx67 href7
  obtain ⟨k0, k1⟩ := cells2 HX67.out
  go_wp2_with fail
  refine HRF.out.mono ?_
  intro e w8 hrf
  obtain ⟨h8, m, es, es', l, aL, cL, al, cl, rfl, hso, hen, hpl, hee, hpe, hl1, hl2⟩ := fix_both HQ1.out hrf
  obtain ⟨nE, hnE⟩ : ∃ n, n = es'.length := ⟨_, rfl⟩
  obtain ⟨nl, hnl⟩ : ∃ n, n = l.length := ⟨_, rfl⟩
  rw [← hnE] at hen hl1 ⊢
  rw [← hnl] at hpl hl2 ⊢
  obtain ⟨w9, hw9, hb9, hx9, y1, y2⟩ := aBk w8 #[.slice aL nE cL, .slice al nl cl, .int .i64 m] 70
  obtain ⟨b9, hb9e⟩ : ∃ b, w8.heap.size = b := ⟨_, rfl⟩
  rw [hb9e] at hx9
  have h79 := h8.trans (hb9.mono h8.size)
  have G39 := hdL ((h79.block _ (loh G37.out)).trans G37.out); have G49 := hdL ((h79.block _ (loh G47.out)).trans G47.out)
  have HSO := hdL (hso.below h79); have HEN := hdL (hen.below hb9); have HPL := hdL (hpl.below hb9); have HEE := hdL hee; have HPE := hdL hpe; have HNE := hdL (And.intro hnE hnl); have HX9 := hdL hx9; have HB9 := hdL (HB7.out.trans (h79.mono HB7.out.size))
  clear hrf h8 hso hen hpl hee hpe hnE hnl hb9 hx9 h79 y1 y2 k0 k1
  go_wp2_with fail
  refine (fix_nil_any w9 left).mono ?_
  rintro e wA ⟨rfl, hA⟩
  obtain ⟨NA, hNA⟩ : ∃ n, n = wA.heap.size := ⟨_, rfl⟩
  have G3A := hdL ((hA.block _ (loh G39.out)).trans G39.out); have G4A := hdL ((hA.block _ (loh G49.out)).trans G49.out)
  have HSOA := hdL (((HSO.out.below hA).keep (Z' := fun b => b < NA) ⟨fun b hl _ => by rw [hNA]; exact hl, Nat.le_refl _, fun _ _ _ h => h⟩)); have HENA := hdL ((HEN.out.below hA).keep (Z' := fun b => b < NA) ⟨fun b hl _ => by rw [hNA]; exact hl, Nat.le_refl _, fun _ _ _ h => h⟩); have HPLA := hdL ((HPL.out.below hA).keep (Z' := fun b => b < NA) ⟨fun b hl _ => by rw [hNA]; exact hl, Nat.le_refl _, fun _ _ _ h => h⟩); have HX9A := hdL ((hA.block _ (loh HX9.out)).trans HX9.out); have HBA := hdL (HB9.out.trans (hA.mono HB9.out.size))
  have HNA := hdL (show NA ≤ wA.heap.size ∧ b9 < NA ∧ b4 < NA ∧ b3 < NA ∧ w.heap.size ≤ NA from ⟨Nat.le_of_eq hNA, by rw [hNA]; exact loh HX9A.out, by rw [hNA]; exact loh G4A.out, by rw [hNA]; exact loh G3A.out, by rw [hNA]; exact HBA.out.size⟩)
  clear hA hNA
  go_wp2_with fail
  refine (sallf_any wA none).mono ?_
  rintro e wC ⟨rfl, hwC⟩
  obtain ⟨wc', hwc', hbC, hxC, z1, z2⟩ := aBk wA #[.pointer none] 31
  obtain rfl : wC = wc' := hwC.trans hwc'
  have hst := sall_nil 7 (by omega) wC wA.heap.size hxC (fun _ _ => False)
  obtain ⟨C, hCe⟩ : ∃ C, wA.heap.size = C := ⟨_, rfl⟩
  rw [hCe] at hst
  have HST := hdL hst; have HBC := hdL hbC
  clear hst hbC hxC hwC hwc' z1 z2
  go_wp2_with fail
  try rw [hCe]
  refine (wpIn_wide (n := 8)).1 ?_
  refine range_wideE (n := 8) (by omega) (gf := 48) (lb := #[.pointer (some ⟨C, 0, none⟩)]) rfl enters_sall HST.out (Below.refl _ _) (fun _ => rfl)
   (fun _ V => Below wC.heap.size wC V) (fun _ _ _ => False) (below_own (Nat.le_refl _)) (fun c s P Q row hs hg hr => hs) (Below.refl _ _) ?round ?done ?stop
  case round =>
   rintro l2 pre y W n0' hl2 hn0' hI hpre -
   exact absurd hpre.length_le (by simp)
  case stop =>
   rintro D c9 pre V hD hp hx hK
   exact hx.elim
  case done =>
   rintro D ys V hD - hI hK
   have hbV : Below wA.heap.size wA V := HBC.out.trans (hI.mono HBC.out.size)
   have G3V := hdL ((hbV.block _ (loh G3A.out)).trans G3A.out); have G4V := hdL ((hbV.block _ (loh G4A.out)).trans G4A.out); have HX9V := hdL ((hbV.block _ (loh HX9A.out)).trans HX9A.out)
   have HSOV := hdL (HSOA.out.below hbV); have HENV := hdL (HENA.out.below hbV); have HPLV := hdL (HPLA.out.below hbV); have HKD := hdL hK; have HBV := hdL (HBA.out.trans (hbV.mono HBA.out.size)); have HND := hdL (show wC.heap.size ≤ D from hD); have HBWC2 := hdL (show w.heap.size ≤ wC.heap.size from Nat.le_trans HBA.out.size HBC.out.size); have HNV := hdL (Nat.le_trans HNA.out.1 hbV.size)
   clear hbV hI hK
   obtain ⟨k0, k1, k2, k3⟩ := cells4 G3V.out
   have hge := oget_any HSOV.out q
   rw [HQP.out.1, ← HQP.out.2.1, ← HQP.out.2.2.1, ← HQP.out.2.2.2] at hge
   have HGE := hdL hge; clear hge
   go_wp2_with fail
   refine HGE.out.mono ?_
   intro e V1 hgp
   obtain ⟨hv1, ag, cg, he, hrg⟩ := hgp
   obtain ⟨z, hz⟩ : ∃ z, z = getE (es.map Prod.fst) q := ⟨_, rfl⟩
   rw [← hz] at he hrg
   obtain ⟨S, T, p1, p2, p3, sg, t1, t2, t3, n9, hl⟩ := ent_let z.1
   rw [hl.arr] at he
   obtain ⟨iz, hiz⟩ : ∃ b, b = z.2 := ⟨_, rfl⟩
   rw [← hiz] at he
   subst he
   obtain ⟨V2, hV2, hb2, hx2, y1, y2⟩ := aBk V1 #[.string S, .int .i64 p1, .int .i64 p2, .int .i64 p3, .int .i64 sg, .string T, .int .i64 t1, .int .i64 t2, .int .i64 t3, .slice ag n9 cg] 45
   obtain ⟨bg, hbge⟩ : ∃ b, V1.heap.size = b := ⟨_, rfl⟩
   rw [hbge] at hx2
   have h02 := hv1.trans (hb2.mono hv1.size)
   have hrgA : PkgsAt zAll V2 (.slice ag z.1.choice.2.length cg) z.1.choice.2 := ((hrg.at (by show z.1.choice.2.length ≤ _; have := HSOV.out.len q; rw [← hz] at this; omega)).keep ⟨fun _ _ _ => trivial, Nat.le_refl _, fun _ _ _ h => h⟩).below hb2
   have G32 := hdL ((h02.block _ (loh G3V.out)).trans G3V.out); have HX92 := hdL ((h02.block _ (loh HX9V.out)).trans HX9V.out)
   have HL := hdL hl; have HZ := hdL (And.intro hz hiz); have HRG := hdL hrgA; have HXG := hdL hx2; have H02 := hdL h02
   clear hv1 hrg hl hz hiz hb2 hx2 h02 hrgA y1 y2 k0 k1 k2 k3
   obtain ⟨k0, k1, k2, k3⟩ := cells4 G32.out
   obtain ⟨j0, j1, j2⟩ := cells3 HX92.out
   have hrg := rget16_any V2 es' l m aL cL al nl cl (by rw [← HNE.out.1]; exact ((HENV.out.below H02.out).keep (Z' := zAll) ⟨fun _ _ _ => trivial, Nat.le_refl _, fun _ _ _ h => h⟩)) (by rw [← HNE.out.1]; exact hl1) q
   rw [← HNE.out.1, HEE.out, HQP.out.1, ← HQP.out.2.1, ← HQP.out.2.2.1, ← HQP.out.2.2.2] at hrg
   have HRG2 := hdL hrg; clear hrg
   go_wp2_with fail
   refine HRG2.out.mono ?_
   intro e V3 hgp
   obtain ⟨hv3, ar, cr, he, hrr⟩ := hgp
   rw [← HZ.out.1] at he hrr
   rw [HL.out.arr, ← HZ.out.2] at he
   subst he
   obtain ⟨V4, hV4, hb4', hx4, y1, y2⟩ := aBk V3 #[.string S, .int .i64 p1, .int .i64 p2, .int .i64 p3, .int .i64 sg, .string T, .int .i64 t1, .int .i64 t2, .int .i64 t3, .slice ar n9 cr] 45
   obtain ⟨br, hbre⟩ : ∃ b, V3.heap.size = b := ⟨_, rfl⟩
   rw [hbre] at hx4
   have h24 := hv3.trans (hb4'.mono hv3.size)
   have G34 := hdL ((h24.block _ (loh G32.out)).trans G32.out); have HX94 := hdL ((h24.block _ (loh HX92.out)).trans HX92.out)
   have HRR := hdL (hrr.below hb4'); have HXR := hdL hx4; have H24 := hdL h24
   clear hv3 hrr hb4' hx4 h24 y1 y2 k0 k1 k2 k3 j0 j1 j2
   obtain ⟨k0, k1, k2, k3⟩ := cells4 G34.out
   have hsn := sget_nil V4 q
   rw [HQP.out.1, ← HQP.out.2.1, ← HQP.out.2.2.1, ← HQP.out.2.2.2] at hsn
   have HSN := hdL hsn; clear hsn
   go_wp2_with fail
   refine HSN.out.mono ?_
   intro e V5 hgp
   obtain ⟨hv5, an, cn, he, -⟩ := hgp
   replace he : e = .returned (.tuple #[.agg #[.string ⟨#[]⟩, .int .i64 0, .int .i64 0, .int .i64 0, .int .i64 0, .string ⟨#[]⟩, .int .i64 0, .int .i64 0, .int .i64 0, .slice an 0 cn], .bool false]) := he
   subst he
   obtain ⟨V6, hV6, hb6', hx6', y1, y2⟩ := aBk V5 #[.string ⟨#[]⟩, .int .i64 0, .int .i64 0, .int .i64 0, .int .i64 0, .string ⟨#[]⟩, .int .i64 0, .int .i64 0, .int .i64 0, .slice an 0 cn] 45
   obtain ⟨bn, hbne⟩ : ∃ b, V5.heap.size = b := ⟨_, rfl⟩
   have h46' := hv5.trans (hb6'.mono hv5.size)
   have h26 := H24.out.trans (h46'.mono H24.out.size)
   have h06 := H02.out.trans (h26.mono H02.out.size)
   have HX96 := hdL ((h46'.block _ (loh HX94.out)).trans HX94.out); have HXG6 := hdL ((h26.block _ (loh HXG.out)).trans HXG.out); have HXR6 := hdL ((h46'.block _ (loh HXR.out)).trans HXR.out); have G46' := hdL ((h06.block _ (loh G4V.out)).trans G4V.out)
   have H06 := hdL h06; have HRG6 := hdL (HRG.out.below h26); have HRR6 := hdL (HRR.out.below h46'); have HSO6 := hdL (HSOV.out.below h06); have HEN6 := hdL (HENV.out.below h06); have HPL6 := hdL (HPLV.out.below h06)
   clear hv5 hb6' hx6' h46' h26 h06 y1 y2 k0 k1 k2 k3
   have HMD := hdL (fun W (hW : Below V6.heap.size V6 W) => omade_any (HSO6.out.below hW))
   have hls := fun W (hW : Below V6.heap.size V6 W) => oless_any (HSO6.out.below hW)
   rw [← HNE.out.2] at hls
   have HLS := hdL hls; clear hls
   have hs16 := fun W (hW : Below V6.heap.size V6 W) => rsame16_any W z.1 z.1 ag ar cg cr zAll zAll (HRG6.out.below hW) (HRR6.out.below hW)
   rw [HL.out.arr, HL.out.arr, entEq_iff.2 rfl] at hs16
   have HS16 := hdL hs16; clear hs16
   obtain ⟨bq, hbq⟩ : ∃ bq : Bool, (po = none ∧ e0 = 60 ∧ bq = true) ∨ (po ≠ none ∧ e0 = 0 ∧ bq = false) := by rcases HPE.out with h | h; exact ⟨true, .inl ⟨h.1, h.2, rfl⟩⟩; exact ⟨false, .inr ⟨h.1, h.2, rfl⟩⟩
   have HBQ := hdL hbq; clear hbq
   have hA : ∀ W, Below V6.heap.size V6 W → ∀ q ∈ ([(15, (fun W : World => W.cell? ⟨b9, 2, none⟩ = some (.int .i64 m))), (22, (fun W : World => W.cell? ⟨b9, 1, none⟩ = some (.slice al nl cl))), (33, (fun W : World => (W.cell? ⟨bg, 0, none⟩ = some (.string S) ∧ W.cell? ⟨bg, 1, none⟩ = some (.int .i64 p1) ∧ W.cell? ⟨bg, 2, none⟩ = some (.int .i64 p2) ∧ W.cell? ⟨bg, 3, none⟩ = some (.int .i64 p3) ∧ W.cell? ⟨bg, 4, none⟩ = some (.int .i64 sg) ∧ W.cell? ⟨bg, 5, none⟩ = some (.string T) ∧ W.cell? ⟨bg, 6, none⟩ = some (.int .i64 t1) ∧ W.cell? ⟨bg, 7, none⟩ = some (.int .i64 t2) ∧ W.cell? ⟨bg, 8, none⟩ = some (.int .i64 t3) ∧ W.cell? ⟨bg, 9, none⟩ = some (.slice ag n9 cg)) ∧ W.cell? ⟨br, 0, none⟩ = some (.string S) ∧ W.cell? ⟨br, 1, none⟩ = some (.int .i64 p1) ∧ W.cell? ⟨br, 2, none⟩ = some (.int .i64 p2) ∧ W.cell? ⟨br, 3, none⟩ = some (.int .i64 p3) ∧ W.cell? ⟨br, 4, none⟩ = some (.int .i64 sg) ∧ W.cell? ⟨br, 5, none⟩ = some (.string T) ∧ W.cell? ⟨br, 6, none⟩ = some (.int .i64 t1) ∧ W.cell? ⟨br, 7, none⟩ = some (.int .i64 t2) ∧ W.cell? ⟨br, 8, none⟩ = some (.int .i64 t3) ∧ W.cell? ⟨br, 9, none⟩ = some (.slice ar n9 cr)))] : List (Nat × (World → Prop))), q.2 W := by
    intro W hW q hq
    rcases List.mem_cons.1 hq with rfl | hq
    ·exact bkp hW _ _ (cOh HX96.out 2)
    rcases List.mem_cons.1 hq with rfl | hq
    ·exact bkp hW _ _ (cOh HX96.out 1)
    obtain rfl := List.mem_singleton.1 hq
    exact ⟨⟨bkp hW _ _ (cOh HXG6.out 0), bkp hW _ _ (cOh HXG6.out 1), bkp hW _ _ (cOh HXG6.out 2), bkp hW _ _ (cOh HXG6.out 3), bkp hW _ _ (cOh HXG6.out 4), bkp hW _ _ (cOh HXG6.out 5), bkp hW _ _ (cOh HXG6.out 6), bkp hW _ _ (cOh HXG6.out 7), bkp hW _ _ (cOh HXG6.out 8), bkp hW _ _ (cOh HXG6.out 9)⟩, bkp hW _ _ (cOh HXR6.out 0), bkp hW _ _ (cOh HXR6.out 1), bkp hW _ _ (cOh HXR6.out 2), bkp hW _ _ (cOh HXR6.out 3), bkp hW _ _ (cOh HXR6.out 4), bkp hW _ _ (cOh HXR6.out 5), bkp hW _ _ (cOh HXR6.out 6), bkp hW _ _ (cOh HXR6.out 7), bkp hW _ _ (cOh HXR6.out 8), bkp hW _ _ (cOh HXR6.out 9)⟩
   have HA := hdL hA; clear hA
   have HB0 := hdL ((Below.refl V6.heap.size V6).drew)
   go_upto_region 15 with fail
   refine wp_noP ?_
   refine UpV.start [(15, (fun W : World => W.cell? ⟨b9, 2, none⟩ = some (.int .i64 m))), (22, (fun W : World => W.cell? ⟨b9, 1, none⟩ = some (.slice al nl cl))), (33, (fun W : World => (W.cell? ⟨bg, 0, none⟩ = some (.string S) ∧ W.cell? ⟨bg, 1, none⟩ = some (.int .i64 p1) ∧ W.cell? ⟨bg, 2, none⟩ = some (.int .i64 p2) ∧ W.cell? ⟨bg, 3, none⟩ = some (.int .i64 p3) ∧ W.cell? ⟨bg, 4, none⟩ = some (.int .i64 sg) ∧ W.cell? ⟨bg, 5, none⟩ = some (.string T) ∧ W.cell? ⟨bg, 6, none⟩ = some (.int .i64 t1) ∧ W.cell? ⟨bg, 7, none⟩ = some (.int .i64 t2) ∧ W.cell? ⟨bg, 8, none⟩ = some (.int .i64 t3) ∧ W.cell? ⟨bg, 9, none⟩ = some (.slice ag n9 cg)) ∧ W.cell? ⟨br, 0, none⟩ = some (.string S) ∧ W.cell? ⟨br, 1, none⟩ = some (.int .i64 p1) ∧ W.cell? ⟨br, 2, none⟩ = some (.int .i64 p2) ∧ W.cell? ⟨br, 3, none⟩ = some (.int .i64 p3) ∧ W.cell? ⟨br, 4, none⟩ = some (.int .i64 sg) ∧ W.cell? ⟨br, 5, none⟩ = some (.string T) ∧ W.cell? ⟨br, 6, none⟩ = some (.int .i64 t1) ∧ W.cell? ⟨br, 7, none⟩ = some (.int .i64 t2) ∧ W.cell? ⟨br, 8, none⟩ = some (.int .i64 t3) ∧ W.cell? ⟨br, 9, none⟩ = some (.slice ar n9 cr)))] (by kernel_rfl) ?_
   refine UpV.tp 0 (v := .int .i64 e0) rfl (Or.inl ⟨by rfl, ?_⟩) (owe_all (HA.out _ HB0.out)) ?_
   ·intro w hSw; first | rfl | (try simp only [sqD, sqE, sqF]; go_simp; done) | (try simp only [sqD, sqE, sqF]; go_simp; simp)
   try simp only [Act.put, sqA, sqB, sqC, sqD, sqE, sqF]
   refine UpV.tp 1 (v := .int .i64 e0) rfl (Or.inl ⟨by rfl, ?_⟩) (owe_all (HA.out _ HB0.out)) ?_
   ·intro w hSw; first | rfl | (try simp only [sqD, sqE, sqF]; go_simp; done) | (try simp only [sqD, sqE, sqF]; go_simp; simp)
   try simp only [Act.put, sqA, sqB, sqC, sqD, sqE, sqF]
   refine UpV.tp 2 (v := .bool false) rfl (Or.inl ⟨by rfl, ?_⟩) (owe_all (HA.out _ HB0.out)) ?_
   ·intro w hSw; first | rfl | (try simp only [sqD, sqE, sqF]; go_simp; done) | (try simp only [sqD, sqE, sqF]; go_simp; simp)
   try simp only [Act.put, sqA, sqB, sqC, sqD, sqE, sqF]
   refine UpV.tp 3 (v := .bool false) rfl (Or.inl ⟨by rfl, ?_⟩) (owe_all (HA.out _ HB0.out)) ?_
   ·intro w hSw; first | rfl | (try simp only [sqD, sqE, sqF]; go_simp; done) | (try simp only [sqD, sqE, sqF]; go_simp; simp)
   try simp only [Act.put, sqA, sqB, sqC, sqD, sqE, sqF]
   refine UpV.tp 4 (v := .pointer po) rfl (Or.inl ⟨by rfl, ?_⟩) (owe_all (HA.out _ HB0.out)) ?_
   ·intro w hSw; first | rfl | (try simp only [sqD, sqE, sqF]; go_simp; done) | (try simp only [sqD, sqE, sqF]; go_simp; simp)
   try simp only [Act.put, sqA, sqB, sqC, sqD, sqE, sqF]
   refine UpV.tp 5 (v := .bool bq) rfl (Or.inl ⟨by rfl, ?_⟩) (owe_all (HA.out _ HB0.out)) ?_
   ·intro w hSw; rcases HBQ.out with ⟨rfl, r2, rfl⟩ | ⟨hn, r2, rfl⟩
    ·first | rfl | (try simp only [sqD, sqE, sqF]; go_simp; done) | (try simp only [sqD, sqE, sqF]; go_simp; simp)
    ·obtain ⟨pa, rfl⟩ := Option.ne_none_iff_exists'.1 hn; first | rfl | (try simp only [sqD, sqE, sqF]; go_simp; done) | (try simp only [sqD, sqE, sqF]; go_simp; simp)
   try simp only [Act.put, sqA, sqB, sqC, sqD, sqE, sqF]
   refine UpV.tp 6 (v := .int .i64 e0) rfl (Or.inl ⟨by rfl, ?_⟩) (owe_all (HA.out _ HB0.out)) ?_
   ·intro w hSw; first | rfl | (try simp only [sqD, sqE, sqF]; go_simp; done) | (try simp only [sqD, sqE, sqF]; go_simp; simp)
   try simp only [Act.put, sqA, sqB, sqC, sqD, sqE, sqF]
   refine UpV.tp 7 (v := .bool bq) rfl (Or.inl ⟨by rfl, ?_⟩) (owe_all (HA.out _ HB0.out)) ?_
   ·intro w hSw; rcases HBQ.out with ⟨-, rfl, rfl⟩ | ⟨-, rfl, rfl⟩ <;> first | rfl | (try simp only [sqD, sqE, sqF]; go_simp; done) | (try simp only [sqD, sqE, sqF]; go_simp; simp)
   try simp only [Act.put, sqA, sqB, sqC, sqD, sqE, sqF]
   refine UpV.tp 8 (v := .bool false) rfl (Or.inl ⟨by rfl, ?_⟩) (owe_all (HA.out _ HB0.out)) ?_
   ·intro w hSw; cases bq <;> first | rfl | (try simp only [sqD, sqE, sqF]; go_simp; done) | (try simp only [sqD, sqE, sqF]; go_simp; simp)
   try simp only [Act.put, sqA, sqB, sqC, sqD, sqE, sqF]
   refine UpV.tp 9 (v := .bool false) rfl (Or.inl ⟨by rfl, ?_⟩) (owe_all (HA.out _ HB0.out)) ?_
   ·intro w hSw; first | rfl | (try simp only [sqD, sqE, sqF]; go_simp; done) | (try simp only [sqD, sqE, sqF]; go_simp; simp)
   try simp only [Act.put, sqA, sqB, sqC, sqD, sqE, sqF]
   refine UpV.tp 10 (v := .bool false) rfl (Or.inl ⟨by rfl, ?_⟩) (owe_all (HA.out _ HB0.out)) ?_
   ·intro w hSw; first | rfl | (try simp only [sqD, sqE, sqF]; go_simp; done) | (try simp only [sqD, sqE, sqF]; go_simp; simp)
   try simp only [Act.put, sqA, sqB, sqC, sqD, sqE, sqF]
   refine UpV.tp 11 (v := .pointer po) rfl (Or.inl ⟨by rfl, ?_⟩) (owe_all (HA.out _ HB0.out)) ?_
   ·intro w hSw; first | rfl | (try simp only [sqD, sqE, sqF]; go_simp; done) | (try simp only [sqD, sqE, sqF]; go_simp; simp)
   try simp only [Act.put, sqA, sqB, sqC, sqD, sqE, sqF]
   refine UpV.tp 13 (v := .pointer (some ⟨b9, 2, none⟩)) rfl (Or.inl ⟨by rfl, ?_⟩) (owe_all (HA.out _ HB0.out)) ?_
   ·intro w hSw; first | rfl | (try simp only [sqD, sqE, sqF]; go_simp; done) | (try simp only [sqD, sqE, sqF]; go_simp; simp)
   try simp only [Act.put, sqA, sqB, sqC, sqD, sqE, sqF]
   refine UpV.tk 14 15 (v := .int .i64 m) rfl (List.mem_cons_self ..) (Or.inl ⟨by rfl, ?_⟩) (owe_all (HA.out _ HB0.out)) ?_
   ·intro w hSw; have s0 := hSw; go_simp
   try simp only [Act.put, sqA, sqB, sqC, sqD, sqE, sqF]
   refine UpV.one 12 (by kernel_rfl) rfl ?_
   intro K hK
   try simp only [sqD, sqE, sqF]
   try go_simp
   go_at_call 35
   refine (HMD.out _ HB0.out).mono ?_
   rintro e Wa ⟨rfl, hWa⟩
   have HBa := hdL ((hWa ▸ HB0.out : Below V6.heap.size V6 Wa)); clear hWa
   try go_simp
   refine hK.out _ _ (owe_all (HA.out _ HBa.out)) ?_
   clear hK K
   try simp only [Act.put, sqA, sqB, sqC, sqD, sqE, sqF]
   refine UpV.one 15 (by kernel_rfl) rfl ?_
   intro K hK
   try simp only [sqD, sqE, sqF]
   try go_simp
   refine hK.out _ _ (owe_all (HA.out _ HBa.out)) ?_
   clear hK K
   try simp only [Act.put, sqA, sqB, sqC, sqD, sqE, sqF]
   refine UpV.tp 16 (v := .bool false) rfl (Or.inl ⟨by rfl, ?_⟩) (owe_all (HA.out _ HBa.out)) ?_
   ·intro w hSw; first | rfl | (try simp only [sqD, sqE, sqF]; go_simp; done) | (try simp only [sqD, sqE, sqF]; go_simp; simp)
   try simp only [Act.put, sqA, sqB, sqC, sqD, sqE, sqF]
   refine UpV.tp 17 (v := .bool false) rfl (Or.inl ⟨by rfl, ?_⟩) (owe_all (HA.out _ HBa.out)) ?_
   ·intro w hSw; first | rfl | (try simp only [sqD, sqE, sqF]; go_simp; done) | (try simp only [sqD, sqE, sqF]; go_simp; simp)
   try simp only [Act.put, sqA, sqB, sqC, sqD, sqE, sqF]
   refine UpV.tp 18 (v := .pointer po) rfl (Or.inl ⟨by rfl, ?_⟩) (owe_all (HA.out _ HBa.out)) ?_
   ·intro w hSw; first | rfl | (try simp only [sqD, sqE, sqF]; go_simp; done) | (try simp only [sqD, sqE, sqF]; go_simp; simp)
   try simp only [Act.put, sqA, sqB, sqC, sqD, sqE, sqF]
   refine UpV.tp 20 (v := .pointer (some ⟨b9, 1, none⟩)) rfl (Or.inl ⟨by rfl, ?_⟩) (owe_all (HA.out _ HBa.out)) ?_
   ·intro w hSw; first | rfl | (try simp only [sqD, sqE, sqF]; go_simp; done) | (try simp only [sqD, sqE, sqF]; go_simp; simp)
   try simp only [Act.put, sqA, sqB, sqC, sqD, sqE, sqF]
   refine UpV.tk 21 22 (v := .slice al nl cl) rfl (List.mem_cons_of_mem _ (List.mem_cons_self ..)) (Or.inl ⟨by rfl, ?_⟩) (owe_all (HA.out _ HBa.out)) ?_
   ·intro w hSw; have s0 := hSw; go_simp
   try simp only [Act.put, sqA, sqB, sqC, sqD, sqE, sqF]
   refine UpV.one 19 (by kernel_rfl) rfl ?_
   intro K hK
   try simp only [sqD, sqE, sqF]
   try go_simp
   go_at_call 21
   refine (HLS.out _ HBa.out).mono ?_
   rintro e Wb ⟨aq, cq, rfl, hrow, hWb⟩
   have hrowA := hrow.at (by show l.length ≤ _; have := HNE.out.2; omega)
   have hs14 := rsame_any Wb _ _ _ hrowA _ _ _ (HPL6.out.below (HBa.out.trans (hWb.mono HBa.out.size)))
   dsimp only at hs14
   rw [decide_eq_true (rfl : l = l)] at hs14
   have HS14 := hdL hs14; clear hs14 hrowA hrow
   have HBb := hdL (HBa.out.trans (hWb.mono HBa.out.size)); clear hWb
   try go_simp
   refine hK.out _ _ (owe_all (HA.out _ HBb.out)) ?_
   clear hK K
   try simp only [Act.put, sqA, sqB, sqC, sqD, sqE, sqF]
   refine UpV.one 22 (by kernel_rfl) rfl ?_
   intro K hK
   try simp only [sqD, sqE, sqF]
   try go_simp
   go_at_call 33
   refine (HS14.out).mono ?_
   rintro e Wd ⟨rfl, hWd⟩
   have HBd := hdL (HBb.out.trans (hWd.mono HBb.out.size)); clear hWd
   try go_simp
   refine hK.out _ _ (owe_all (HA.out _ HBd.out)) ?_
   clear hK K
   try simp only [Act.put, sqA, sqB, sqC, sqD, sqE, sqF]
   refine UpV.tp 23 (v := .bool false) rfl (Or.inl ⟨by rfl, ?_⟩) (owe_all (HA.out _ HBd.out)) ?_
   ·intro w hSw; first | rfl | (try simp only [sqD, sqE, sqF]; go_simp; done) | (try simp only [sqD, sqE, sqF]; go_simp; simp)
   try simp only [Act.put, sqA, sqB, sqC, sqD, sqE, sqF]
   refine UpV.tp 24 (v := .bool false) rfl (Or.inl ⟨by rfl, ?_⟩) (owe_all (HA.out _ HBd.out)) ?_
   ·intro w hSw; first | rfl | (try simp only [sqD, sqE, sqF]; go_simp; done) | (try simp only [sqD, sqE, sqF]; go_simp; simp)
   try simp only [Act.put, sqA, sqB, sqC, sqD, sqE, sqF]
   refine UpV.tp 25 (v := .bool false) rfl (Or.inl ⟨by rfl, ?_⟩) (owe_all (HA.out _ HBd.out)) ?_
   ·intro w hSw; first | rfl | (try simp only [sqD, sqE, sqF]; go_simp; done) | (try simp only [sqD, sqE, sqF]; go_simp; simp)
   try simp only [Act.put, sqA, sqB, sqC, sqD, sqE, sqF]
   refine UpV.tp 26 (v := .bool iz) rfl (Or.inl ⟨by rfl, ?_⟩) (owe_all (HA.out _ HBd.out)) ?_
   ·intro w hSw; first | rfl | (try simp only [sqD, sqE, sqF]; go_simp; done) | (try simp only [sqD, sqE, sqF]; go_simp; simp)
   try simp only [Act.put, sqA, sqB, sqC, sqD, sqE, sqF]
   refine UpV.tp 27 (v := .bool iz) rfl (Or.inl ⟨by rfl, ?_⟩) (owe_all (HA.out _ HBd.out)) ?_
   ·intro w hSw; first | rfl | (try simp only [sqD, sqE, sqF]; go_simp; done) | (try simp only [sqD, sqE, sqF]; go_simp; simp)
   try simp only [Act.put, sqA, sqB, sqC, sqD, sqE, sqF]
   refine UpV.tp 28 (v := .bool false) rfl (Or.inl ⟨by rfl, ?_⟩) (owe_all (HA.out _ HBd.out)) ?_
   ·intro w hSw; cases iz <;> first | rfl | (try simp only [sqD, sqE, sqF]; go_simp; done) | (try simp only [sqD, sqE, sqF]; go_simp; simp)
   try simp only [Act.put, sqA, sqB, sqC, sqD, sqE, sqF]
   refine UpV.tp 29 (v := .bool false) rfl (Or.inl ⟨by rfl, ?_⟩) (owe_all (HA.out _ HBd.out)) ?_
   ·intro w hSw; first | rfl | (try simp only [sqD, sqE, sqF]; go_simp; done) | (try simp only [sqD, sqE, sqF]; go_simp; simp)
   try simp only [Act.put, sqA, sqB, sqC, sqD, sqE, sqF]
   refine UpV.tp 30 (v := .bool false) rfl (Or.inl ⟨by rfl, ?_⟩) (owe_all (HA.out _ HBd.out)) ?_
   ·intro w hSw; first | rfl | (try simp only [sqD, sqE, sqF]; go_simp; done) | (try simp only [sqD, sqE, sqF]; go_simp; simp)
   try simp only [Act.put, sqA, sqB, sqC, sqD, sqE, sqF]
   refine UpV.tk 31 33 (v := .agg #[.string S, .int .i64 p1, .int .i64 p2, .int .i64 p3, .int .i64 sg, .string T, .int .i64 t1, .int .i64 t2, .int .i64 t3, .slice ag n9 cg]) rfl (List.mem_cons_of_mem _ (List.mem_cons_of_mem _ (List.mem_cons_self ..))) (Or.inl ⟨by rfl, ?_⟩) (owe_all (HA.out _ HBd.out)) ?_
   ·intro w hSw; obtain ⟨⟨a0, a1, a2, a3, a4, a5, a6, a7, a8, a9⟩, c0, c1, c2, c3, c4, c5, c6, c7, c8, c9⟩ := hSw; go_simp
   try simp only [Act.put, sqA, sqB, sqC, sqD, sqE, sqF]
   refine UpV.tk 32 33 (v := .agg #[.string S, .int .i64 p1, .int .i64 p2, .int .i64 p3, .int .i64 sg, .string T, .int .i64 t1, .int .i64 t2, .int .i64 t3, .slice ar n9 cr]) rfl (List.mem_cons_of_mem _ (List.mem_cons_of_mem _ (List.mem_cons_self ..))) (Or.inl ⟨by rfl, ?_⟩) (owe_all (HA.out _ HBd.out)) ?_
   ·intro w hSw; obtain ⟨⟨a0, a1, a2, a3, a4, a5, a6, a7, a8, a9⟩, c0, c1, c2, c3, c4, c5, c6, c7, c8, c9⟩ := hSw; go_simp
   try simp only [Act.put, sqA, sqB, sqC, sqD, sqE, sqF]
   refine UpV.one 33 (by kernel_rfl) rfl ?_
   intro K hK
   try simp only [sqD, sqE, sqF]
   try go_simp
   go_at_call 32
   refine (HS16.out _ HBd.out).mono ?_
   rintro e We ⟨rfl, hWe⟩
   have HBe := hdL (HBd.out.trans (hWe.mono HBd.out.size)); clear hWe
   try go_simp
   refine hK.out _ _ (owe_all (HA.out _ HBe.out)) ?_
   clear hK K
   try simp only [Act.put, sqA, sqB, sqC, sqD, sqE, sqF]
   refine UpV.tp 34 (v := .bool false) rfl (Or.inl ⟨by rfl, ?_⟩) (owe_all (HA.out _ HBe.out)) ?_
   ·intro w hSw; first | rfl | (try simp only [sqD, sqE, sqF]; go_simp; done) | (try simp only [sqD, sqE, sqF]; go_simp; simp)
   try simp only [Act.put, sqA, sqB, sqC, sqD, sqE, sqF]
   refine UpV.tp 35 (v := .bool false) rfl (Or.inl ⟨by rfl, ?_⟩) (owe_all (HA.out _ HBe.out)) ?_
   ·intro w hSw; first | rfl | (try simp only [sqD, sqE, sqF]; go_simp; done) | (try simp only [sqD, sqE, sqF]; go_simp; simp)
   try simp only [Act.put, sqA, sqB, sqC, sqD, sqE, sqF]
   refine UpV.done (by kernel_rfl) ?_
   refine NoP.go ?_
   have hbe : Below V.heap.size V We := H06.out.trans (HBe.out.mono H06.out.size)
   have G4e := hdL ((hbe.block _ (loh G4V.out)).trans G4V.out); have HX9e := hdL ((HBe.out.block _ (loh HX96.out)).trans HX96.out); have HDe := hdL ((hbe.block _ (loh HKD.out)).trans HKD.out); have HSOe := hdL (HSO6.out.below HBe.out); have HENe := hdL (HEN6.out.below HBe.out); have HBWe := hdL (HBV.out.trans (hbe.mono HBV.out.size))
   have hNB : b4 < We.heap.size ∧ b9 < We.heap.size ∧ D < We.heap.size ∧ NA ≤ We.heap.size ∧ w.heap.size ≤ We.heap.size := ⟨loh G4e.out, loh HX9e.out, loh HDe.out, Nat.le_trans HNV.out hbe.size, HBWe.out.size⟩
   clear hbe
   obtain ⟨W50, hW50, hb50, hx50, y1, y2⟩ := aBk We #[.int .i64 0] 3
   obtain ⟨bi, hbie⟩ : ∃ b, We.heap.size = b := ⟨_, rfl⟩
   rw [hbie] at hx50 hNB
   obtain ⟨W5, hW5⟩ : ∃ W, W50.setCell ⟨bi, 0, none⟩ (.int .i64 0) = W := ⟨_, rfl⟩
   have hx5 : W5.heap[bi]? = some (.cells #[.int .i64 0] 3 (0, 0)) := by rw [← hW5]; exact set_at 0 _ hx50 (by simp)
   have hb5 : Below We.heap.size We W5 := by rw [← hW5]; exact hb50.setCell (p := ⟨bi, 0, none⟩) (Nat.le_of_eq hbie) _
   have xx0 := cOh hx50 0
   have xxf := foh hx50
   have HB5 := hdL hb5; have HX5 := hdL hx5; have HNB := hdL hNB; clear hb5 hx5 hNB hb50 hx50 y1 y2
   go_upto_region 18 with fail
   try rw [hW5]
   clear xx0 xxf hW5
   go_wp2_with fail
   refine (sallf_any W5 po).mono ?_
   rintro e wK ⟨rfl, hwK⟩
   obtain ⟨wk', hwk', hbK, hxK, z1, z2⟩ := aBk W5 #[.pointer po] 31
   obtain rfl : wK = wk' := hwK.trans hwk'
   have hbk := HB5.out.trans (hbK.mono HB5.out.size)
   have hsoK : StgO (fun b => b < bi) wK po es l m := (HSOe.out.below hbk).keep ⟨fun b _ h => Nat.lt_of_lt_of_le h HNB.out.2.2.2.1, Nat.le_refl _, fun _ _ _ h => h⟩
   have henK : EntsAt (fun b => b < bi) wK (.slice aL nE cL) es' := (HENe.out.below hbk).keep ⟨fun b _ h => Nat.lt_of_lt_of_le h HNB.out.2.2.2.1, Nat.le_refl _, fun _ _ _ h => h⟩
   have hst := oall_stops 7 (by omega) hsoK W5.heap.size hxK (XNew bi) (fun b hb o hx => Nat.not_le.2 hb hx)
   obtain ⟨C2, hC2e⟩ : ∃ C, W5.heap.size = C := ⟨_, rfl⟩
   rw [hC2e] at hst
   have hxiK := (hbK.block _ (loh HX5.out)).trans HX5.out
   have hszK : bi < wK.heap.size := loh hxiK
   have HST := hdL hst; have HENK := hdL henK; have G4K := hdL ((hbk.block _ (loh G4e.out)).trans G4e.out); have HX9K := hdL ((hbk.block _ (loh HX9e.out)).trans HX9e.out); have HDK := hdL ((hbk.block _ (loh HDe.out)).trans HDe.out); have HBWK := hdL (HBWe.out.trans (hbk.mono HBWe.out.size)); have HIK := hdL hxiK; have HSK := hdL hszK
   clear hst hsoK henK hbK hxK hwK hwk' hbk hxiK hszK z1 z2
   go_wp2_with fail
   try rw [hC2e]
   refine (wpIn_wide (n := 8)).1 ?_
   refine range_wideE (n := 8) (by omega) (gf := 48) (lb := #[.pointer (some ⟨C2, 0, none⟩)]) rfl enters_sall HST.out (Below.refl _ _) (fun _ => rfl)
    (fun pre V => V.heap[bi]? = some (.cells #[.int .i64 (pre.length : Int)] 3 (0, 0)) ∧ Below bi wK V) (fun _ _ _ => False) ?own2 (fun c s P Q row hs hg hr => hs) ⟨HIK.out, Below.refl _ _⟩ ?round2 ?done2 ?stop2
   case own2 =>
    rintro pre A C' row ⟨h1, h2⟩ hg hr
    exact ⟨kp_turn hg hr h1, h2.grown hg (Nat.le_trans (Nat.le_of_lt HSK.out) h2.size) (fun k e => Nat.le_trans (Nat.le_of_lt HSK.out) (hr k e).1)⟩
   case stop2 =>
    rintro D9 c9 pre V' hD hp hx hK
    exact hx.elim
   case round2 =>
    rintro l7 pre x Wr n0' hl7 hn0' hIr hpre hex
    have hpre2 : pre.map Prod.fst ++ [x.1] <+: es.map Prod.fst := by have := hpre; rwa [List.map_append] at this
    have hat := (prefix_at hpre2).1
    rw [List.length_map, ← HEE.out, List.getElem?_map] at hat
    obtain ⟨y, hy, hyx⟩ : ∃ y, es'[pre.length]? = some y ∧ y.1 = x.1 := by
     cases hc : es'[pre.length]? with
     | none => rw [hc] at hat; cases hat
     | some y => rw [hc] at hat; exact ⟨y, rfl, Option.some.inj hat⟩
    have hkn : pre.length < nE := by rw [HNE.out.1]; exact (List.getElem?_eq_some_iff.1 hy).1
    obtain ⟨X, Y, r1, r2, r3, rg, v1', v2', v3', m9, hl⟩ := ent_let x.1
    obtain ⟨xe, ax, cx⟩ := x
    obtain ⟨ye, ay, cy⟩ := y
    dsimp only at hl hyx
    subst hyx
    unfold encE
    rw [hl.arr]
    gi_wp2
    refine ⟨(Below.refl _ _).alloc (Nat.le_refl _) _, ?_⟩
    rintro W2 hbi hbI hsame rl hrl
    clear hrl
    have hp2 := hsame.heap (heap_alloc_new Wr (.cells #[.string X, .int .i64 r1, .int .i64 r2, .int .i64 r3, .int .i64 rg, .string Y, .int .i64 v1', .int .i64 v2', .int .i64 v3', .slice ax m9 cx] 45))
    have hexW : PRow n0' W2 (.slice ax ye.choice.2.length cx, ye.choice.2) := ownsC_keep hex (fun g hg => by obtain ⟨_, cur, hc⟩ := oCk hex hg; exact (hsame.heap ((((Below.refl _ Wr).alloc (Nat.le_refl _) (.cells #[.string X, .int .i64 r1, .int .i64 r2, .int .i64 r3, .int .i64 rg, .string Y, .int .i64 v1', .int .i64 v2', .int .i64 v3', .slice ax m9 cx] 45)).block g (loh hc)).trans hc)).trans hc.symm)
    obtain ⟨Bp, hBp⟩ : ∃ b, Wr.heap.size = b := ⟨_, rfl⟩
    rw [hBp] at hp2 ⊢
    obtain ⟨k, hk⟩ : ∃ k, k = pre.length := ⟨_, rfl⟩
    rw [← hk] at hbi hy hkn
    have henW := HENK.out.keep (Keep.low hbI)
    have hchl : ye.choice.2.length ≤ 8796093022208 := by
     obtain ⟨a', c', e', hb', -⟩ := (ents_mem henW _ (List.mem_of_getElem? hy) : PkgsAt _ _ _ _)
     exact hb'.max
    obtain ⟨b0, o0, S', T', rfl, hS', hT', hwx, c0, c1, c2, c3, c4, c5, c6, c7, c8, c9⟩ := henW.cells hy
    obtain rfl : S' = X := by rw [hl.s] at hS'; injection hS' with hS'; exact hS'.symm
    obtain rfl : T' = Y := by rw [hl.t] at hT'; injection hT' with hT'; exact hT'.symm
    have hs16 := fun W (hW : Below W2.heap.size W2 W) => rsame16_any W ye ye ax ay cx cy _ _ ((PRow.at hexW hchl).below hW) (hwx.below hW)
    simp only [hl.arr, entEq_iff.2 (rfl : ye = ye)] at hs16
    dsimp only at c0 c1 c2 c3 c4 c5 c6 c7 c8 c9
    rw [← hl.p.1] at c1; rw [← hl.p.2.1] at c2; rw [← hl.p.2.2] at c3; rw [← hl.g] at c4; rw [← hl.c.1] at c6; rw [← hl.c.2.1] at c7; rw [← hl.c.2.2] at c8; rw [← hl.n] at c9
    have hx9W := (hbI.block _ HNB.out.2.1).trans HX9K.out
    obtain ⟨ι, F, hF0, hFB, hFG⟩ := below_fam W2
    have hcF : ∀ a v, W2.cell? a = some v → ∀ n, (F n).cell? a = some v := fun a v h n => bkp (hFB n) _ _ h
    have x0 := hcF _ _ (cOh hp2 0); have y0 := hcF _ _ c0
    have x1 := hcF _ _ (cOh hp2 1); have y1 := hcF _ _ c1
    have x2 := hcF _ _ (cOh hp2 2); have y2 := hcF _ _ c2
    have x3 := hcF _ _ (cOh hp2 3); have y3 := hcF _ _ c3
    have x4 := hcF _ _ (cOh hp2 4); have y4 := hcF _ _ c4
    have x5 := hcF _ _ (cOh hp2 5); have y5 := hcF _ _ c5
    have x6 := hcF _ _ (cOh hp2 6); have y6 := hcF _ _ c6
    have x7 := hcF _ _ (cOh hp2 7); have y7 := hcF _ _ c7
    have x8 := hcF _ _ (cOh hp2 8); have y8 := hcF _ _ c8
    have x9 := hcF _ _ (cOh hp2 9); have y9 := hcF _ _ c9
    have fi := hcF _ _ (cOh hbi 0); have f9 := hcF _ _ (cOh hx9W 0)
    have hadd : IntKind.i64.wrap ((k : Int) + 1) = (k : Int) + 1 := IntWalk.i64_in _ (by omega)
    have hgd : decide (nE ≤ k) = false := decide_eq_false (by omega)
    have hge : ¬ nE ≤ k := by omega
    have HCALL := hdL (calls_fam hFB hFG hs16); have HF0 := hdL hF0; have HFB := hdL hFB; have HBI := hdL hbi; have HI := hdL hbI; have HK := hdL hk; have HBP := hdL (show bi ≤ W2.heap.size from Nat.le_of_lt (loh hbi))
    clear hF0 hFB hFG hcF hs16 hbi hbI hk hp2 hexW hsame hIr hpre hpre2 hat hy hwx hS' hT' hl hex henW hx9W hchl hBp c0 c1 c2 c3 c4 c5 c6 c7 c8 c9
    gi_wp2
    obtain ⟨n0, hn0⟩ := HF0.out 1
    have hne : Nonempty ι := ⟨n0⟩
    refine region_fam_in F n0 hn0 (by kernel_rfl) (by kernel_rfl) (by kernel_rfl) ?_
    repeat (go_big_quiet_step ((go_at_call 32; exact HCALL.out _)))
    refine wpQuiet_nil ?_
    intro _ hw'
    obtain ⟨m0, hw''⟩ := hw'
    subst hw''
    have hbF := ((HFB.out m0).block _ (loh HBI.out)).trans HBI.out
    have e0' := cOh hbF 0
    have ef := foh hbF
    have HBF := hdL hbF; clear hbF
    gi_wp2
    refine ⟨((OnlyX.of_below (HFB.out m0)).trans (OnlyX.set HBF.out rfl (Nat.le_refl _))).rnd, ?_, ((HI.out.trans ((HFB.out m0).mono (by have := HBP.out; omega))).setCell (p := ⟨bi, 0, none⟩) (Nat.le_refl _) _)⟩
    rw [List.length_append, List.length_singleton, ← HK.out]
    exact set_at 0 _ HBF.out (ds := #[.int .i64 ((k + 1 : Nat) : Int)]) (by simp)
   case done2 =>
    rintro D2 ys Vb hD2 hS ⟨hbi, hbI⟩ hK2
    have hyl : ys.length = nE := by have := congrArg List.length hS; rw [List.length_map, ← HEE.out, List.length_map] at this; rw [this, HNE.out.1]
    rw [hyl] at hbi
    have G4b := hdL ((hbI.block _ HNB.out.1).trans G4K.out); have HX9b := hdL ((hbI.block _ HNB.out.2.1).trans HX9K.out); have HDb := hdL ((hbI.block _ HNB.out.2.2.1).trans HDK.out); have HD2 := hdL hK2; have HIb := hdL hbi; have HBWb := hdL (HBWK.out.trans (hbI.mono HNB.out.2.2.2.2)); have HDN := hdL (show bi < D2 from Nat.lt_of_lt_of_le HSK.out hD2)
    clear hbi hbI hK2 hyl hS
    have i0 := cOh HIb.out 0
    have j0 := cOh HX9b.out 0
    have z0 := cOh G4b.out 0
    have zf := foh G4b.out
    have hnn : ((nE : Int) == (nE : Int)) = true := by simp
    go_wp2_with fail
    refine (sless_nil Vb).mono ?_
    rintro e V9 ⟨rfl, rfl⟩
    go_wp2_with fail
    refine (smade_nil _).mono ?_
    rintro e V9' ⟨rfl, rfl⟩
    go_wp2_with fail
    have h4D : b4 < D2 ∧ D ≠ D2 ∧ b4 ≠ D := by
     refine ⟨by have := HNB.out.1; have := HDN.out; omega, by have := HNB.out.2.2.1; have := HDN.out; omega, ?_⟩
     intro e; have h1 := G4b.out; rw [e, HDb.out] at h1; cases h1
    have hs2 : (Vb.setCell ⟨b4, 0, none⟩ (.bool true)).heap[D2]? = some (.deferred (some [])) := (Below.heap_setCell _ _ _ _ (by simp; omega)).trans HD2.out
    have hs1 : ((Vb.setCell ⟨b4, 0, none⟩ (.bool true)).putObj D2 (.deferred none)).heap[D]? = some (.deferred (some [])) := (World.putObj_heap_other (by omega)).trans ((Below.heap_setCell _ _ _ _ (by simp; omega)).trans HDb.out)
    have k1 : (((Vb.setCell ⟨b4, 0, none⟩ (.bool true)).putObj D2 (.deferred none)).putObj D (.deferred none)).cell? ⟨b4, 0, none⟩ = some (.bool true) := (World.cell?_of_block (World.putObj_heap_other (by simp; omega))).trans ((World.cell?_of_block (World.putObj_heap_other (by simp; omega))).trans (one_cellB (.bool true) G4b.out))
    refine marks_ret2 (v := .bool true) rfl hs2 hs1 (by simp [results, Tryz.results7, go_sem, k1]) ⟨rfl, ?_⟩
    have f2 := HBWb.out.setCell (p := ⟨b4, 0, none⟩) HSZ.out.1 (.bool true)
    have f3 := f2.grown (grownBy_putObj' _ D2 (.deferred none)) f2.size (fun k e => by have := HNB.out.2.2.2.2; have := HDN.out; obtain rfl : D2 = k := Option.some.inj e; omega)
    have f4 := f3.grown (grownBy_putObj' _ D (.deferred none)) f3.size (fun k e => by have := HND.out; have := HBWC2.out; obtain rfl : D = k := Option.some.inj e; omega)
    first | exact f4 | (rw [hb2e] at f4; exact f4)
end Go.Proofs.YtaagkndhgicifaaGreat
