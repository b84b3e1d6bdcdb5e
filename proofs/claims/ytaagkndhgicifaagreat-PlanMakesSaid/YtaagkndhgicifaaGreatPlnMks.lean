/- DERIVED. Make answers what the document says: PlanMakes, walked. (Printed by plmakesgen.py.) -/
import Derived.Test.YtaagkndhgicifaaGreatPlnAl
import Derived.Test.YtaagkndhgicifaaGreatPlnBeg
import Derived.Test.YtaagkndhgicifaaGreatRPln
namespace Go.Proofs.YtaagkndhgicifaaGreat
set_option maxHeartbeats 32000000
open Go.RowKit Go.Shelf
set_option linter.unusedVariables false
set_option linter.unusedSimpArgs false
set_option maxRecDepth 100000
theorem makes_any (w : World) (v1 v2 : Value) (x : Pack) (hx : PackAt w v1 v2 x) (q : Pk) (left : Int) : Calls Tryz.prog 9 #[.agg #[v1, v2], .agg #[strV q.1, .int .i64 q.2.1, .int .i64 q.2.2.1, .int .i64 q.2.2.2], .int .i64 left] w (fun e w' => e = .returned (.bool true) ∧ Below w.heap.size w w') := by
 obtain ⟨a0, c0, rfl, -⟩ := id hx.1
 obtain ⟨a5, c5, rfl, -⟩ := id hx.2.2
 obtain ⟨P, -, hP, -, -⟩ := strV_is q.1
 obtain ⟨n0, hn0⟩ : ∃ z, z = x.seeds.length := ⟨_, rfl⟩
 obtain ⟨n5, hn5⟩ : ∃ z, z = x.recs.length := ⟨_, rfl⟩
 obtain ⟨u1, hu1⟩ : ∃ z, z = q.2.1 := ⟨_, rfl⟩
 obtain ⟨u2, hu2⟩ : ∃ z, z = q.2.2.1 := ⟨_, rfl⟩
 obtain ⟨u3, hu3⟩ : ∃ z, z = q.2.2.2 := ⟨_, rfl⟩
 rw [← hn0, ← hn5] at hx; rw [← hn0, ← hn5, hP, ← hu1, ← hu2, ← hu3]
 obtain ⟨w1, hw1, hb1, hx1, y1, y2⟩ := aBk w #[.slice a0 n0 c0, .slice a5 n5 c5] 79
 obtain ⟨w3, hw3, hb3, hx3, y3, y4⟩ := aBk w1 #[.string P, .int .i64 u1, .int .i64 u2, .int .i64 u3] 41
 obtain ⟨b2, hb2e⟩ : ∃ b, w.heap.size = b := ⟨_, rfl⟩
 obtain ⟨b3, hb3e⟩ : ∃ b, w1.heap.size = b := ⟨_, rfl⟩
 have hb13 := hb1.trans (hb3.mono hb1.size)
 have g1 := (hb3.block _ (by omega)).trans hx1
 rw [hb2e] at g1; rw [hb3e] at hx3
 have G23 := hdL g1; have G33 := hdL hx3; have HB3 := hdL hb13; have HX := hdL hx; have HQP := hdL (And.intro hP (And.intro hu1 (And.intro hu2 hu3)))
 clear hx hn0 hn5 hP hu1 hu2 hu3 hb1 hb3 hb13 hx1 hx3 g1 y1 y2 y3 y4
 go_enter Tryz.func9, Tryz.ntmps9
 go_wp2_with fail
 refine (alive17_any w3).mono ?_
 rintro e w4 ⟨rfl, h4⟩
 have G24 := hdL ((h4.block _ (loh G23.out)).trans G23.out); have G34 := hdL ((h4.block _ (loh G33.out)).trans G33.out)
 have HB4 := hdL (HB3.out.trans (h4.mono HB3.out.size)); clear h4
 obtain ⟨k0, k1⟩ := cells2 G24.out
 have HBG := hdL (begun17_any w4 _ _ x (HX.out.below HB4.out))
 go_wp2_with fail
 refine HBG.out.mono ?_
 rintro e w5 ⟨h5, B, a1, n1, c1, a2, n2, c2, ok, rfl, hok⟩
 obtain ⟨w6, hw6, hb6, hx6, y1, y2⟩ := aBk w5 #[.slice a1 n1 c1, .slice a2 n2 c2] 28
 obtain ⟨b6, hb6e⟩ : ∃ b, w5.heap.size = b := ⟨_, rfl⟩
 rw [hb6e] at hx6
 have h46 := h5.trans (hb6.mono h5.size)
 have G36 := hdL ((h46.block _ (loh G34.out)).trans G34.out); have HB6 := hdL (HB4.out.trans (h46.mono HB4.out.size)); have HX6 := hdL hx6; have HB56 := hdL hb6
 clear h5 hb6 h46 hx6 y1 y2 k0 k1
 cases ok
 ·go_wp2_with fail
  go_ret
  exact ⟨rfl, HB6.out⟩
 ·by_cases hl6 : 600 < left
  ·go_wp2_with fail
   go_ret
   exact ⟨rfl, HB6.out⟩
  obtain ⟨st, F, hbeg⟩ := hok rfl
  have HBE := hdL (hbeg.below HB56.out)
  clear hok hbeg
  obtain ⟨⟨pl, pls, pe⟩, hpl⟩ : ∃ r, r = planT st q left := ⟨_, rfl⟩
  have hfw := plan_few HBE.out.few q left
  rw [← hpl] at hfw
  dsimp only at hfw
  have hpm := pmake_any w6 B F st HBE.out.stk left (by omega) q
  rw [← hpl, HQP.out.1, ← HQP.out.2.1, ← HQP.out.2.2.1, ← HQP.out.2.2.2] at hpm
  have HPM := hdL hpm; have HPL := hdL hpl; have HFW := hdL hfw; clear hpm hpl hfw
  obtain ⟨e0, e1, e2, e3⟩ := cells4 G36.out
  go_wp2_with fail
  refine HPM.out.mono ?_
  intro e w7 hpp
  obtain ⟨h7, a, n, c, os, al, nl, cl, rfl, hos, hmp, hnl, hrw⟩ := hpp
  dsimp only at hmp hnl hrw ⊢
  obtain ⟨w8, hw8, hb8, hx8, y1, y2⟩ := aBk w7 #[.slice a n c, .slice al nl cl] 81
  obtain ⟨b8, hb8e⟩ : ∃ b, w7.heap.size = b := ⟨_, rfl⟩
  rw [hb8e] at hx8
  have h68 := h7.trans (hb8.mono h7.size)
  have hrm := rmake17_any w8 _ st ((HBE.out.ref.below h68).keep (Z' := zAll) ⟨fun _ _ _ => trivial, Nat.le_refl _, fun _ _ _ h => h⟩) HBE.out.few.1 HBE.out.few.2 HBE.out.good left (by omega) q
  rw [← HPL.out, HQP.out.1, ← HQP.out.2.1, ← HQP.out.2.2.1, ← HQP.out.2.2.2] at hrm
  have HRM := hdL hrm; have HOS := hdL (hos.below hb8); have HMP := hdL hmp; have HNL := hdL hnl; have HRW := hdL ((KT.below hb8).owns hrw); have G38 := hdL ((h68.block _ (loh G36.out)).trans G36.out); have HX68 := hdL ((h68.block _ (loh HX6.out)).trans HX6.out); have HX8 := hdL hx8; have HB8 := hdL (HB6.out.trans (h68.mono HB6.out.size))
  clear h7 hos hmp hnl hrw hb8 hx8 h68 hrm y1 y2 e0 e1 e2 e3
  obtain ⟨e0, e1, e2, e3⟩ := cells4 G38.out
  obtain ⟨k0, k1⟩ := cells2 HX68.out
  go_wp2_with fail
  refine HRM.out.mono ?_
  intro e w9 hrp
  obtain ⟨h9, a', c', os', al', cl', rfl, hos', hmp', hpl'⟩ := hrp
  dsimp only at hmp' hpl' ⊢
  rw [← HNL.out] at hpl' ⊢
  obtain ⟨n', hn'⟩ : ∃ z, z = os'.length := ⟨_, rfl⟩
  rw [← hn'] at hos' ⊢
  have G39 := hdL ((h9.block _ (loh G38.out)).trans G38.out); have HX9 := hdL ((h9.block _ (loh HX8.out)).trans HX8.out); have HO9 := hdL (HOS.out.below h9); have HR9 := hdL ((KT.below h9).owns HRW.out); have HOR := hdL hos'; have HMR := hdL hmp'; have HPR := hdL hpl'; have HB9 := hdL (HB8.out.trans (h9.mono HB8.out.size))
  clear h9 hos' hmp' hpl' hn' e0 e1 e2 e3 k0 k1
  have hpn := pmake_nil w9 q left
  rw [HQP.out.1, ← HQP.out.2.1, ← HQP.out.2.2.1, ← HQP.out.2.2.2] at hpn
  have HPN := hdL hpn; clear hpn
  obtain ⟨e0, e1, e2, e3⟩ := cells4 G39.out
  go_wp2_with fail
  refine HPN.out.mono ?_
  rintro e wA ⟨rfl, hA⟩
  obtain ⟨wB0, hwB0, hbB0, hxB0, y1, y2⟩ := aBk wA #[.slice none 0 0, .slice none 0 0] 81
  obtain ⟨bB, hbBe⟩ : ∃ b, wA.heap.size = b := ⟨_, rfl⟩
  rw [hbBe] at hxB0
  obtain ⟨wB, hwB, hxBB, hcB⟩ := two_setR hxB0 (.slice none 0 0) (.slice none 0 0)
  have hbB : Below wA.heap.size wA wB := hbB0.trans (boC hcB (fun k hk => by rw [mSg.1 hk, hbBe]; exact Nat.le_refl _) hbB0.size)
  obtain ⟨z0, z1⟩ := cells2 hxB0
  have zf := foh hxB0
  have h9B := hA.trans (hbB.mono hA.size)
  have G3B := hdL ((h9B.block _ (loh G39.out)).trans G39.out); have HXB := hdL ((h9B.block _ (loh HX9.out)).trans HX9.out); have H9B := hdL h9B
  clear hA hbB hbB0 hxB0 hxBB hcB h9B y1 y2 e0 e1 e2 e3
  go_upto_region 9 with fail
  try rw [hwB]
  clear hwB z0 z1 zf
  have hnn := needs_nil wB q
  rw [HQP.out.1, ← HQP.out.2.1, ← HQP.out.2.2.1, ← HQP.out.2.2.2] at hnn
  have HNN := hdL hnn; clear hnn
  obtain ⟨e0, e1, e2, e3⟩ := cells4 G3B.out
  go_wp2_with fail
  refine HNN.out.mono ?_
  rintro e wC ⟨rfl, hC⟩
  have h9C := H9B.out.trans (hC.mono H9B.out.size)
  have HXC := hdL ((hC.block _ (loh HXB.out)).trans HXB.out); have H9C := hdL h9C; have HBC := hdL (HB9.out.trans (h9C.mono HB9.out.size))
  clear hC h9C e0 e1 e2 e3
  have hn40 : n ≤ 40 := by rw [HO9.out.1]; have := HFW.out.1; rw [← HMP.out, List.length_map] at this; exact this
  have hs17 := rsame17_any wC _ _ _ _ os os' ((HO9.out.below H9C.out).ents (by omega)) (HOR.out.below H9C.out)
  rw [decide_eq_true (HMP.out.trans HMR.out.symm)] at hs17
  have HS17 := hdL hs17; clear hs17
  obtain ⟨j0, j1⟩ := cells2 HXC.out
  have hee : ((pe : Int) == pe) = true := by simp
  go_wp2_with fail
  refine HS17.out.mono ?_
  rintro e wD ⟨rfl, hD⟩
  have hs14 := rsame_any wD _ _ _ ((PRow.at (show PRow w6.heap.size w9 (.slice al nl cl, pls) from HR9.out) (by show pls.length ≤ _; have := HFW.out.2; omega)).below (H9C.out.trans (hD.mono H9C.out.size))) _ _ _ (HPR.out.below (H9C.out.trans (hD.mono H9C.out.size)))
  dsimp only at hs14
  rw [decide_eq_true (rfl : pls = pls)] at hs14
  have HS14 := hdL hs14; have HXD := hdL ((hD.block _ (loh HXC.out)).trans HXC.out); have HBD := hdL (HBC.out.trans (hD.mono HBC.out.size)); clear hs14 hD j0 j1
  obtain ⟨j0, j1⟩ := cells2 HXD.out
  go_wp2_with fail
  refine HS14.out.mono ?_
  rintro e wE ⟨rfl, hE⟩
  have HBE2 := hdL (HBD.out.trans (hE.mono HBD.out.size)); clear hE j0 j1
  go_wp2_with fail
  go_ret
  exact ⟨rfl, HBE2.out⟩
end Go.Proofs.YtaagkndhgicifaaGreat
