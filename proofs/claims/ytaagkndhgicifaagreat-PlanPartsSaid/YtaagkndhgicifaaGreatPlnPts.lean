/- DERIVED. The plan for a package has in it the plans for the packages of its plan: PlanParts, walked. (Printed by plpartsgen.py.) -/
import Derived.Test.YtaagkndhgicifaaGreatPlnAl
import Derived.Test.YtaagkndhgicifaaGreatPlnBeg
import Derived.Test.YtaagkndhgicifaaGreatPlnLawB
import Derived.Test.YtaagkndhgicifaaGreatRPln
namespace Go.Proofs.YtaagkndhgicifaaGreat
set_option maxHeartbeats 32000000
open Go.RowKit Go.Shelf
set_option linter.unusedVariables false
set_option linter.unusedSimpArgs false
set_option maxRecDepth 100000
theorem plan_parts {st : St} {q : Pk} {left : Int} {pl : List Ent} {pls : List Pk} (h : (pl, pls, (0 : Int)) = planT st q left) {y : Ent} (hy : y ∈ pl) :
  ∃ pl2, planT st y.pkg left = (pl2, [], 0) ∧ pl2.length ≤ pl.length ∧ (y.pkg = q → pl2 = pl) ∧ ∀ z ∈ pl2, z ∈ pl := by
 rcases planT_cases st q left with ⟨-, g⟩ | ⟨-, -, g⟩ | ⟨L, l, m, hh, hf, hp, g⟩ | ⟨L, l, m, hh, hf, hp, g⟩
 ·rw [g] at h; injection h with h1 h2; injection h2 with h2 h3; exact absurd h3 (by decide)
 ·rw [g] at h; injection h with h1 h2; injection h2 with h2 h3; exact absurd h3 (by decide)
 ·rw [g] at h; injection h with h1 h2; injection h2 with h2 h3; exact absurd h3 (by decide)
 ·rw [g] at h; injection h with h1 h2; subst h1
  obtain ⟨g1, g2, g3, g4⟩ := need_parts hf hy
  exact ⟨needT L y.pkg, planT_need g1 hf g2, g3, fun e => by rw [e], g4⟩
def eqE (z : Ent) (u : Ent) : Bool := decide (u.pkg = z.pkg) && decide (u.stage = z.stage)
theorem parts_any (w : World) (v1 v2 : Value) (x : Pack) (hx : PackAt w v1 v2 x) (q : Pk) : Calls Tryz.prog 13 #[.agg #[v1, v2], .agg #[strV q.1, .int .i64 q.2.1, .int .i64 q.2.2.1, .int .i64 q.2.2.2]] w (fun e w' => e = .returned (.bool true) ∧ Below w.heap.size w w') := by
 obtain ⟨a0, c0, rfl, -⟩ := id hx.1
 obtain ⟨a5, c5, rfl, -⟩ := id hx.2.2
 obtain ⟨P, -, hP, -, -⟩ := strV_is q.1
 obtain ⟨n0, hn0⟩ : ∃ z, z = x.seeds.length := ⟨_, rfl⟩
 obtain ⟨n5, hn5⟩ : ∃ z, z = x.recs.length := ⟨_, rfl⟩
 obtain ⟨u1, hu1⟩ : ∃ v, v = q.2.1 := ⟨_, rfl⟩
 obtain ⟨u2, hu2⟩ : ∃ z, z = q.2.2.1 := ⟨_, rfl⟩
 obtain ⟨u3, hu3⟩ : ∃ z, z = q.2.2.2 := ⟨_, rfl⟩
 rw [← hn0, ← hn5] at hx; rw [← hn0, ← hn5, hP, ← hu1, ← hu2, ← hu3]
 obtain ⟨w1, hw1, hb1, hx1, y1, y2⟩ := aBk w #[.slice a0 n0 c0, .slice a5 n5 c5] 79
 obtain ⟨w3, hw3, hb3, hx3, y3, y4⟩ := aBk w1 #[.string P, .int .i64 u1, .int .i64 u2, .int .i64 u3] 41
 obtain ⟨b2, hb2e⟩ : ∃ b, w.heap.size = b := ⟨_, rfl⟩
 obtain ⟨b3, hb3e⟩ : ∃ b, w1.heap.size = b := ⟨_, rfl⟩
 have hb13 := hb1.trans (hb3.mono hb1.size)
 have g1 := (hb3.block _ (by omega)).trans hx1
 rw [hb2e] at g1; rw [hb3e] at hx3
 have G23 := hdL g1; have G33 := hdL hx3; have HB3 := hdL hb13; have HX := hdL hx; have HQP := hdL (And.intro hP (And.intro hu1 (And.intro hu2 hu3)))
 clear hx hn0 hn5 hP hu1 hu2 hu3 hb1 hb3 hb13 hx1 hx3 g1 y1 y2 y3 y4
 go_enter Tryz.func13, Tryz.ntmps13
 go_wp2_with fail
 refine (alive17_any w3).mono ?_
 rintro e w4 ⟨rfl, h4⟩
 have G24 := hdL ((h4.block _ (loh G23.out)).trans G23.out); have G34 := hdL ((h4.block _ (loh G33.out)).trans G33.out)
 have HB4 := hdL (HB3.out.trans (h4.mono HB3.out.size)); clear h4
 obtain ⟨k0, k1⟩ := cells2 G24.out
 have HBG := hdL (begun17_any w4 _ _ x (HX.out.below HB4.out))
 go_wp2_with fail
 refine HBG.out.mono ?_
 rintro e w5 ⟨h5, B, a1, n1, c1, a2, n2, c2, ok, rfl, hok⟩
 obtain ⟨w6, hw6, hb6, hx6, y1, y2⟩ := aBk w5 #[.slice a1 n1 c1, .slice a2 n2 c2] 28
 obtain ⟨b6, hb6e⟩ : ∃ b, w5.heap.size = b := ⟨_, rfl⟩
 rw [hb6e] at hx6
 have h46 := h5.trans (hb6.mono h5.size)
 have G36 := hdL ((h46.block _ (loh G34.out)).trans G34.out); have HB6 := hdL (HB4.out.trans (h46.mono HB4.out.size)); have HX6 := hdL hx6; have HB56 := hdL hb6
 clear h5 hb6 h46 hx6 y1 y2 k0 k1
 cases ok
 ·go_wp2_with fail
  go_ret
  exact ⟨rfl, HB6.out⟩
 ·obtain ⟨st, F, hbeg⟩ := hok rfl
  have HBE := hdL (hbeg.below HB56.out)
  clear hok hbeg
  obtain ⟨⟨pl, pls, pe⟩, hpl⟩ : ∃ r, r = planT st q 600 := ⟨_, rfl⟩
  have hfw := plan_few HBE.out.few q 600
  rw [← hpl] at hfw
  dsimp only at hfw
  have hpm := pmake_any w6 B F st HBE.out.stk 600 (by decide) q
  rw [← hpl, HQP.out.1, ← HQP.out.2.1, ← HQP.out.2.2.1, ← HQP.out.2.2.2] at hpm
  have HPM := hdL hpm; have HFW := hdL hfw; have HPL := hdL hpl; clear hpm hpl hfw
  obtain ⟨e0, e1, e2, e3⟩ := cells4 G36.out
  go_wp2_with fail
  refine HPM.out.mono ?_
  intro e w7 hpp
  obtain ⟨h7, a, n, c, os, al, nl, cl, rfl, hos, hmp, -, -⟩ := hpp
  dsimp only at hmp ⊢
  obtain ⟨w8, hw8, hb8, hx8, y1, y2⟩ := aBk w7 #[.slice a n c, .slice al nl cl] 81
  obtain ⟨b8, hb8e⟩ : ∃ b, w7.heap.size = b := ⟨_, rfl⟩
  rw [hb8e] at hx8
  have h68 := h7.trans (hb8.mono h7.size)
  have hn40 : n ≤ 40 := by rw [hos.1]; have := HFW.out.1; rw [← hmp, List.length_map] at this; exact this
  have HOS := hdL (hos.below hb8); have HMP := hdL hmp; have HST8 := hdL (HBE.out.stk.below h68); have G38 := hdL ((h68.block _ (loh G36.out)).trans G36.out); have HX8 := hdL hx8; have HB8 := hdL (HB6.out.trans (h68.mono HB6.out.size))
  clear h7 hos hmp hb8 hx8 h68 y1 y2 e0 e1 e2 e3
  by_cases hpe : pe = 0
  ·subst hpe
   obtain ⟨j0, j1⟩ := cells2 HX8.out
   go_wp2_with fail
   clear j0 j1
   go_loopw [40] (fun i wr => ∃ k : Nat, i = .int .i64 k ∧ k ≤ n ∧ Hid (Below w8.heap.size w8 wr)) (fun i _ => n - (intOf i).toNat)
   case atStart => exact ⟨0, rfl, Nat.zero_le _, hdL (Below.refl _ _)⟩
   case round =>
    obtain ⟨k, rfl, hk, hbw⟩ := hrel
    obtain ⟨W0, hW0⟩ : ∃ W, W = wr := ⟨_, rfl⟩
    subst hW0
    by_cases hlt : k < n
    ·obtain ⟨y, hx⟩ : ∃ x, os[k]? = some x := ⟨_, gEg (by rw [← HOS.out.1]; exact hlt)⟩
     have hym : y.1 ∈ pl := by rw [← HMP.out]; exact List.mem_map.2 ⟨y, List.mem_of_getElem? hx, rfl⟩
     obtain ⟨pl2, hp1, hp2, hp3, hp4⟩ := plan_parts HPL.out hym
     have hE0 := (HOS.out.below hbw.out).ents (by omega)
     obtain ⟨bR, oR, S0, rfl⟩ : ∃ (bR : Nat) (oR : Nat) (S0 : Unit), a = some ⟨bR, oR, none⟩ := by obtain ⟨bR, oR, -, -, h, -⟩ := hE0.cells hx; exact ⟨bR, oR, (), h⟩
     obtain ⟨bb, o, S', T', hae, hS', hT', -, c0, c1, c2, c3, c4, c5, c6, c7, c8, c9⟩ := (hE0).cells hx
     obtain ⟨S, T, p1, p2, p3, sg, t1, t2, t3, n9, hl⟩ := ent_let y.1
     obtain rfl : S' = S := by rw [hl.s] at hS'; injection hS' with hS'; exact hS'.symm
     obtain rfl : T' = T := by rw [hl.t] at hT'; injection hT' with hT'; exact hT'.symm
     rw [← hl.p.1] at c1; rw [← hl.p.2.1] at c2; rw [← hl.p.2.2] at c3; rw [← hl.g] at c4; rw [← hl.c.1] at c6; rw [← hl.c.2.1] at c7; rw [← hl.c.2.2] at c8; rw [← hl.n] at c9
     obtain ⟨ax, hax⟩ : ∃ v, v = y.2.1 := ⟨_, rfl⟩
     obtain ⟨cx, hcx⟩ : ∃ v, v = y.2.2 := ⟨_, rfl⟩
     rw [← hax, ← hcx] at c9
     obtain ⟨rfl, rfl⟩ : bR = bb ∧ oR = o := by have := sIj hae; injection this with h1 h2 h3; exact ⟨h1, h2⟩
     obtain ⟨w9, hw9, hb9, hx9, z1, z2⟩ := aBk W0 #[.string S', .int .i64 p1, .int .i64 p2, .int .i64 p3, .int .i64 sg, .string T', .int .i64 t1, .int .i64 t2, .int .i64 t3, .slice ax n9 cx] 45
     obtain ⟨b9, hb9e⟩ : ∃ b, W0.heap.size = b := ⟨_, rfl⟩
     rw [hb9e] at hx9
     have h89 := hbw.out.trans (hb9.mono hbw.out.size)
     have hpm := pmake_any w9 B F st (HST8.out.below h89) 600 (by decide) y.1.pkg
     rw [hp1, hl.s, ← hl.p.1, ← hl.p.2.1, ← hl.p.2.2] at hpm
     have hqe := eqPk2 y.1.pkg q hl.s HQP.out.1
     rw [← hl.p.1, ← hl.p.2.1, ← hl.p.2.2, ← HQP.out.2.1, ← HQP.out.2.2.1, ← HQP.out.2.2.2] at hqe
     have HPM := hdL hpm; have HQE := hdL hqe; have HP2 := hdL hp2; have HP3 := hdL hp3; have HP4 := hdL hp4; have HX9 := hdL hx9; have H89 := hdL h89
     clear hx hym hp1 hp2 hp3 hp4 hE0 hS' hT' hae hl hax hcx hb9 hx9 h89 hpm hqe z1 z2
     obtain ⟨f0, f1, f2, f3, f4, f5, f6, f7, f8, f9⟩ := cells10 HX9.out
     go_wp2_with fail
     refine HPM.out.mono ?_
     intro e w10 hpp
     obtain ⟨h10, a2', n2', c2', os2, al2, nl2, cl2, rfl, hos2, hmp2, -, -⟩ := hpp
     dsimp only at hmp2 ⊢
     obtain ⟨w11, hw11, hb11, hx11, z1, z2⟩ := aBk w10 #[.slice a2' n2' c2', .slice al2 nl2 cl2] 81
     obtain ⟨b11, hb11e⟩ : ∃ b, w10.heap.size = b := ⟨_, rfl⟩
     rw [hb11e] at hx11
     have h911 := h10.trans (hb11.mono h10.size)
     have h811 := H89.out.trans (h911.mono H89.out.size)
     have hn2 : n2' ≤ n := by rw [hos2.1, HOS.out.1]; have h1 := HP2.out; rw [← hmp2, ← HMP.out, List.length_map, List.length_map] at h1; exact h1
     have HO2 := hdL (hos2.below hb11); have HM2 := hdL hmp2; have HX11 := hdL hx11; have H811 := hdL h811; have HX89 := hdL ((h811.block _ (loh HX8.out)).trans HX8.out); have HX911 := hdL ((h911.block _ (loh HX9.out)).trans HX9.out); have G3b := hdL ((h811.block _ (loh G38.out)).trans G38.out)
     clear h10 hos2 hmp2 hb11 hx11 h911 h811 z1 z2 f0 f1 f2 f3 f4 f5 f6 f7 f8 f9
     have hgt : decide (n < n2') = false := decide_eq_false (by omega)
     have hqe := HQE.out
     clear c0 c1 c2 c3 c4 c5 c6 c7 c8 c9
     obtain ⟨j0, j1⟩ := cells2 HX89.out
     obtain ⟨f0, f1, f2, f3, f4, f5, f6, f7, f8, f9⟩ := cells10 HX911.out
     obtain ⟨d0, d1⟩ := cells2 HX11.out
     obtain ⟨e0, e1, e2, e3⟩ := cells4 G3b.out
     cases hd : decide (y.1.pkg = q)
     ·simp only [hd] at hqe
      clear hd
      go_wp2_with fail
      clear hqe j0 j1 f0 f1 f2 f3 f4 f5 f6 f7 f8 f9 d0 d1 e0 e1 e2 e3
      go_loopw [79] (fun i wr => ∃ m : Nat, i = .int .i64 m ∧ m ≤ n2' ∧ Hid (Below w8.heap.size w8 wr) ∧ Hid (Below w11.heap.size w11 wr)) (fun i _ => n2' - (intOf i).toNat)
      case atStart => exact ⟨0, rfl, Nat.zero_le _, H811, hdL (Below.refl _ _)⟩
      case round =>
       obtain ⟨m, rfl, hm, hb8w, hbv⟩ := hrel
       obtain ⟨V0, hV0⟩ : ∃ W, W = wr := ⟨_, rfl⟩
       subst hV0
       by_cases hlt2 : m < n2'
       ·obtain ⟨z, hx⟩ : ∃ x, os2[m]? = some x := ⟨_, gEg (by rw [← HO2.out.1]; exact hlt2)⟩
        have hzm : z.1 ∈ pl := HP4.out z.1 (by rw [← HM2.out]; exact List.mem_map.2 ⟨z, List.mem_of_getElem? hx, rfl⟩)
        have hE2 := (HO2.out.below hbv.out).ents (by omega)
        obtain ⟨bZ, oZ, rfl⟩ : ∃ (bR : Nat) (oR : Nat), a2' = some ⟨bR, oR, none⟩ := by obtain ⟨bR, oR, -, -, h, -⟩ := hE2.cells hx; exact ⟨bR, oR, h⟩
        obtain ⟨bbz, oz, Sz', Tz', hae, hS', hT', -, c0, c1, c2, c3, c4, c5, c6, c7, c8, c9⟩ := (hE2).cells hx
        obtain ⟨Sz, Tz, p1z, p2z, p3z, sgz, t1z, t2z, t3z, n9z, hl⟩ := ent_let z.1
        obtain rfl : Sz' = Sz := by rw [hl.s] at hS'; injection hS' with hS'; exact hS'.symm
        obtain rfl : Tz' = Tz := by rw [hl.t] at hT'; injection hT' with hT'; exact hT'.symm
        rw [← hl.p.1] at c1; rw [← hl.p.2.1] at c2; rw [← hl.p.2.2] at c3; rw [← hl.g] at c4; rw [← hl.c.1] at c6; rw [← hl.c.2.1] at c7; rw [← hl.c.2.2] at c8; rw [← hl.n] at c9
        obtain ⟨axz, hax⟩ : ∃ v, v = z.2.1 := ⟨_, rfl⟩
        obtain ⟨cxz, hcx⟩ : ∃ v, v = z.2.2 := ⟨_, rfl⟩
        rw [← hax, ← hcx] at c9
        obtain ⟨rfl, rfl⟩ : bZ = bbz ∧ oZ = oz := by have := sIj hae; injection this with h1 h2 h3; exact ⟨h1, h2⟩
        obtain ⟨w12, hw12, hb12, hx12, z1, z2⟩ := aBk V0 #[.string Sz', .int .i64 p1z, .int .i64 p2z, .int .i64 p3z, .int .i64 sgz, .string Tz', .int .i64 t1z, .int .i64 t2z, .int .i64 t3z, .slice axz n9z cxz] 45
        obtain ⟨b12, hb12e⟩ : ∃ b, V0.heap.size = b := ⟨_, rfl⟩
        rw [hb12e] at hx12
        have h812 := hb8w.out.trans (hb12.mono hb8w.out.size)
        have hu12 := hbv.out.trans (hb12.mono hbv.out.size)
        have HX12 := hdL hx12; have HLZ := hdL hl; have HZM := hdL hzm; have H812 := hdL h812; have HU12 := hdL hu12; have HX8v := hdL ((h812.block _ (loh HX8.out)).trans HX8.out)
        clear hx hzm hE2 hS' hT' hae hl hax hcx hb12 hx12 h812 hu12 z1 z2
        obtain ⟨j0, j1⟩ := cells2 HX8v.out
        go_wp2_with fail
        clear j0 j1 c0 c1 c2 c3 c4 c5 c6 c7 c8 c9
        go_loopw [16, 86] (fun bv i wr => ∃ (r : Nat) (nb : Bool), bv = .bool nb ∧ i = .int .i64 r ∧ r ≤ n ∧ Hid (nb = (pl.take r).any (eqE z.1)) ∧ Hid (Below w12.heap.size w12 wr)) (fun _ i _ => n - (intOf i).toNat)
        case atStart => exact ⟨0, false, rfl, rfl, Nat.zero_le _, hdL rfl, hdL (Below.refl _ _)⟩
        case round =>
         obtain ⟨r, nb, rfl, rfl, hr, hnb, hbx⟩ := hrel
         obtain ⟨X0, hX0⟩ : ∃ W, W = wr := ⟨_, rfl⟩
         subst hX0
         have h8x := H812.out.trans (hbx.out.mono H812.out.size)
         have HX12x := hdL ((hbx.out.block _ (loh HX12.out)).trans HX12.out); have H8X := hdL h8x; clear h8x
         by_cases hlt3 : r < n
         ·obtain ⟨u, hx⟩ : ∃ x, os[r]? = some x := ⟨_, gEg (by rw [← HOS.out.1]; exact hlt3)⟩
          have hE3 := (HOS.out.below H8X.out).ents (by omega)
          obtain ⟨bbu, ou, Su', Tu', hae, hS', hT', -, c0, c1, c2, c3, c4, c5, c6, c7, c8, c9⟩ := (hE3).cells hx
          obtain ⟨Su, Tu, p1u, p2u, p3u, sgu, t1u, t2u, t3u, n9u, hl⟩ := ent_let u.1
          obtain rfl : Su' = Su := by rw [hl.s] at hS'; injection hS' with hS'; exact hS'.symm
          obtain rfl : Tu' = Tu := by rw [hl.t] at hT'; injection hT' with hT'; exact hT'.symm
          rw [← hl.p.1] at c1; rw [← hl.p.2.1] at c2; rw [← hl.p.2.2] at c3; rw [← hl.g] at c4; rw [← hl.c.1] at c6; rw [← hl.c.2.1] at c7; rw [← hl.c.2.2] at c8; rw [← hl.n] at c9
          obtain ⟨axu, hax⟩ : ∃ v, v = u.2.1 := ⟨_, rfl⟩
          obtain ⟨cxu, hcx⟩ : ∃ v, v = u.2.2 := ⟨_, rfl⟩
          rw [← hax, ← hcx] at c9
          obtain ⟨rfl, rfl⟩ : bR = bbu ∧ oR = ou := by have := sIj hae; injection this with h1 h2 h3; exact ⟨h1, h2⟩
          have heq := eqPk2 u.1.pkg z.1.pkg hl.s HLZ.out.s
          rw [← hl.p.1, ← hl.p.2.1, ← hl.p.2.2, ← HLZ.out.p.1, ← HLZ.out.p.2.1, ← HLZ.out.p.2.2] at heq
          have htk : (pl.take (r + 1)).any (eqE z.1) = ((pl.take r).any (eqE z.1) || eqE z.1 u.1) := by
           have hur : pl[r]? = some u.1 := by rw [← HMP.out, List.getElem?_map, hx]; rfl
           rw [List.take_add_one, hur]; simp
          obtain ⟨bq, hbq⟩ : ∃ b, b = decide (u.1.pkg = z.1.pkg) := ⟨_, rfl⟩
          have hee : eqE z.1 u.1 = (bq && decide (sgu = sgz)) := by unfold eqE; rw [hbq, hl.g, HLZ.out.g]
          rw [← hbq] at heq
          rw [hee] at htk
          obtain ⟨w13, hw13, hb13, hx13, z1, z2⟩ := aBk X0 #[.string Su', .int .i64 p1u, .int .i64 p2u, .int .i64 p3u, .int .i64 sgu, .string Tu', .int .i64 t1u, .int .i64 t2u, .int .i64 t3u, .slice axu n9u cxu] 45
          obtain ⟨b13, hb13e⟩ : ∃ b, X0.heap.size = b := ⟨_, rfl⟩
          rw [hb13e] at hx13
          have g12 := (hb13.block _ (loh HX12x.out)).trans HX12x.out
          have HTK := hdL htk; have HB13 := hdL (hbx.out.trans (hb13.mono hbx.out.size))
          obtain ⟨f0, f1, f2, f3, f4, f5, f6, f7, f8, f9⟩ := cells10 hx13
          obtain ⟨d0, d1, d2, d3, d4, d5, d6, d7, d8, d9⟩ := cells10 g12
          clear hx hE3 hS' hT' hae hl hax hcx htk hbq hee hb13 hx13 g12 z1 z2
          cases nb
          ·cases bq
           ·go_wp2_with fail
            go_roundw
            case rel => exact ⟨r + 1, false, rfl, by go_num, hlt3, hdL (by rw [HTK.out, ← hnb.out]; rfl), HB13⟩
            case measure => first | (simp [intOf]; done) | (simp [intOf]; omega)
           ·obtain ⟨bs, hbs⟩ : ∃ b, b = decide (sgu = sgz) := ⟨_, rfl⟩
            have hsg : ((sgu : Int) == sgz) = bs := by rw [hbs]; rfl
            have HBS := hdL hbs; clear hbs
            go_wp2_with fail
            go_roundw
            case rel => exact ⟨r + 1, bs, rfl, by go_num, hlt3, hdL (by rw [HTK.out, ← hnb.out, HBS.out]; rfl), HB13⟩
            case measure => first | (simp [intOf]; done) | (simp [intOf]; omega)
          ·go_wp2_with fail
           go_roundw
           case rel => exact ⟨r + 1, true, rfl, by go_num, hlt3, hdL (by rw [HTK.out, ← hnb.out]; rfl), HB13⟩
           case measure => first | (simp [intOf]; done) | (simp [intOf]; omega)
         ·obtain rfl : r = n := by omega
          have hnt : nb = true := by
           rw [hnb.out, tLe (by have := HMP.out; rw [← this, List.length_map, ← HOS.out.1]; exact Nat.le_refl _)]
           exact List.any_eq_true.2 ⟨z.1, HZM.out, by unfold eqE; simp⟩
          subst hnt
          have HUX := hdL (HU12.out.trans (hbx.out.mono HU12.out.size))
          go_wp2_with fail
          go_roundw
          case rel => exact ⟨m + 1, by go_num, hlt2, H8X, HUX⟩
          case measure => first | (simp [intOf]; done) | (simp [intOf]; omega)
       ·obtain rfl : m = n2' := by omega
        go_wp2_with fail
        go_roundw
        case rel => exact ⟨k + 1, by go_num, hlt, hb8w⟩
        case measure => first | (simp [intOf]; done) | (simp [intOf]; omega)
     ·have hsm := (HP3.out (of_decide_eq_true hd)).symm
      subst hsm
      simp only [hd] at hqe
      clear hd
      have hs17 := rsame17_any w11 _ _ _ _ os os2 ((HOS.out.below H811.out).ents (by omega)) (HO2.out.ents (by omega))
      rw [decide_eq_true (HMP.out.trans HM2.out.symm)] at hs17
      have HS17 := hdL hs17; clear hs17
      go_wp2_with fail
      refine HS17.out.mono ?_
      rintro e U0 ⟨rfl, hu⟩
      have hux := (hu.block _ (loh HX11.out)).trans HX11.out
      have H8u := hdL (H811.out.trans (hu.mono H811.out.size)); have HO2u := hdL (HO2.out.below hu); clear hu hqe j0 j1 f0 f1 f2 f3 f4 f5 f6 f7 f8 f9 d0 d1 e0 e1 e2 e3
      obtain ⟨d0, d1⟩ := cells2 hux
      clear hux
      go_wp2_with fail
      clear d0 d1
      go_loopw [79] (fun i wr => ∃ m : Nat, i = .int .i64 m ∧ m ≤ n2' ∧ Hid (Below w8.heap.size w8 wr) ∧ Hid (Below U0.heap.size U0 wr)) (fun i _ => n2' - (intOf i).toNat)
      case atStart => exact ⟨0, rfl, Nat.zero_le _, H8u, hdL (Below.refl _ _)⟩
      case round =>
       obtain ⟨m, rfl, hm, hb8w, hbv⟩ := hrel
       obtain ⟨V0, hV0⟩ : ∃ W, W = wr := ⟨_, rfl⟩
       subst hV0
       by_cases hlt2 : m < n2'
       ·obtain ⟨z, hx⟩ : ∃ x, os2[m]? = some x := ⟨_, gEg (by rw [← HO2.out.1]; exact hlt2)⟩
        have hzm : z.1 ∈ pl := HP4.out z.1 (by rw [← HM2.out]; exact List.mem_map.2 ⟨z, List.mem_of_getElem? hx, rfl⟩)
        have hE2 := (HO2u.out.below hbv.out).ents (by omega)
        obtain ⟨bZ, oZ, rfl⟩ : ∃ (bR : Nat) (oR : Nat), a2' = some ⟨bR, oR, none⟩ := by obtain ⟨bR, oR, -, -, h, -⟩ := hE2.cells hx; exact ⟨bR, oR, h⟩
        obtain ⟨bbz, oz, Sz', Tz', hae, hS', hT', -, c0, c1, c2, c3, c4, c5, c6, c7, c8, c9⟩ := (hE2).cells hx
        obtain ⟨Sz, Tz, p1z, p2z, p3z, sgz, t1z, t2z, t3z, n9z, hl⟩ := ent_let z.1
        obtain rfl : Sz' = Sz := by rw [hl.s] at hS'; injection hS' with hS'; exact hS'.symm
        obtain rfl : Tz' = Tz := by rw [hl.t] at hT'; injection hT' with hT'; exact hT'.symm
        rw [← hl.p.1] at c1; rw [← hl.p.2.1] at c2; rw [← hl.p.2.2] at c3; rw [← hl.g] at c4; rw [← hl.c.1] at c6; rw [← hl.c.2.1] at c7; rw [← hl.c.2.2] at c8; rw [← hl.n] at c9
        obtain ⟨axz, hax⟩ : ∃ v, v = z.2.1 := ⟨_, rfl⟩
        obtain ⟨cxz, hcx⟩ : ∃ v, v = z.2.2 := ⟨_, rfl⟩
        rw [← hax, ← hcx] at c9
        obtain ⟨rfl, rfl⟩ : bZ = bbz ∧ oZ = oz := by have := sIj hae; injection this with h1 h2 h3; exact ⟨h1, h2⟩
        obtain ⟨w12, hw12, hb12, hx12, z1, z2⟩ := aBk V0 #[.string Sz', .int .i64 p1z, .int .i64 p2z, .int .i64 p3z, .int .i64 sgz, .string Tz', .int .i64 t1z, .int .i64 t2z, .int .i64 t3z, .slice axz n9z cxz] 45
        obtain ⟨b12, hb12e⟩ : ∃ b, V0.heap.size = b := ⟨_, rfl⟩
        rw [hb12e] at hx12
        have h812 := hb8w.out.trans (hb12.mono hb8w.out.size)
        have hu12 := hbv.out.trans (hb12.mono hbv.out.size)
        have HX12 := hdL hx12; have HLZ := hdL hl; have HZM := hdL hzm; have H812 := hdL h812; have HU12 := hdL hu12; have HX8v := hdL ((h812.block _ (loh HX8.out)).trans HX8.out)
        clear hx hzm hE2 hS' hT' hae hl hax hcx hb12 hx12 h812 hu12 z1 z2
        obtain ⟨j0, j1⟩ := cells2 HX8v.out
        go_wp2_with fail
        clear j0 j1 c0 c1 c2 c3 c4 c5 c6 c7 c8 c9
        go_loopw [16, 86] (fun bv i wr => ∃ (r : Nat) (nb : Bool), bv = .bool nb ∧ i = .int .i64 r ∧ r ≤ n ∧ Hid (nb = (pl.take r).any (eqE z.1)) ∧ Hid (Below w12.heap.size w12 wr)) (fun _ i _ => n - (intOf i).toNat)
        case atStart => exact ⟨0, false, rfl, rfl, Nat.zero_le _, hdL rfl, hdL (Below.refl _ _)⟩
        case round =>
         obtain ⟨r, nb, rfl, rfl, hr, hnb, hbx⟩ := hrel
         obtain ⟨X0, hX0⟩ : ∃ W, W = wr := ⟨_, rfl⟩
         subst hX0
         have h8x := H812.out.trans (hbx.out.mono H812.out.size)
         have HX12x := hdL ((hbx.out.block _ (loh HX12.out)).trans HX12.out); have H8X := hdL h8x; clear h8x
         by_cases hlt3 : r < n
         ·obtain ⟨u, hx⟩ : ∃ x, os[r]? = some x := ⟨_, gEg (by rw [← HOS.out.1]; exact hlt3)⟩
          have hE3 := (HOS.out.below H8X.out).ents (by omega)
          obtain ⟨bbu, ou, Su', Tu', hae, hS', hT', -, c0, c1, c2, c3, c4, c5, c6, c7, c8, c9⟩ := (hE3).cells hx
          obtain ⟨Su, Tu, p1u, p2u, p3u, sgu, t1u, t2u, t3u, n9u, hl⟩ := ent_let u.1
          obtain rfl : Su' = Su := by rw [hl.s] at hS'; injection hS' with hS'; exact hS'.symm
          obtain rfl : Tu' = Tu := by rw [hl.t] at hT'; injection hT' with hT'; exact hT'.symm
          rw [← hl.p.1] at c1; rw [← hl.p.2.1] at c2; rw [← hl.p.2.2] at c3; rw [← hl.g] at c4; rw [← hl.c.1] at c6; rw [← hl.c.2.1] at c7; rw [← hl.c.2.2] at c8; rw [← hl.n] at c9
          obtain ⟨axu, hax⟩ : ∃ v, v = u.2.1 := ⟨_, rfl⟩
          obtain ⟨cxu, hcx⟩ : ∃ v, v = u.2.2 := ⟨_, rfl⟩
          rw [← hax, ← hcx] at c9
          obtain ⟨rfl, rfl⟩ : bR = bbu ∧ oR = ou := by have := sIj hae; injection this with h1 h2 h3; exact ⟨h1, h2⟩
          have heq := eqPk2 u.1.pkg z.1.pkg hl.s HLZ.out.s
          rw [← hl.p.1, ← hl.p.2.1, ← hl.p.2.2, ← HLZ.out.p.1, ← HLZ.out.p.2.1, ← HLZ.out.p.2.2] at heq
          have htk : (pl.take (r + 1)).any (eqE z.1) = ((pl.take r).any (eqE z.1) || eqE z.1 u.1) := by
           have hur : pl[r]? = some u.1 := by rw [← HMP.out, List.getElem?_map, hx]; rfl
           rw [List.take_add_one, hur]; simp
          obtain ⟨bq, hbq⟩ : ∃ b, b = decide (u.1.pkg = z.1.pkg) := ⟨_, rfl⟩
          have hee : eqE z.1 u.1 = (bq && decide (sgu = sgz)) := by unfold eqE; rw [hbq, hl.g, HLZ.out.g]
          rw [← hbq] at heq
          rw [hee] at htk
          obtain ⟨w13, hw13, hb13, hx13, z1, z2⟩ := aBk X0 #[.string Su', .int .i64 p1u, .int .i64 p2u, .int .i64 p3u, .int .i64 sgu, .string Tu', .int .i64 t1u, .int .i64 t2u, .int .i64 t3u, .slice axu n9u cxu] 45
          obtain ⟨b13, hb13e⟩ : ∃ b, X0.heap.size = b := ⟨_, rfl⟩
          rw [hb13e] at hx13
          have g12 := (hb13.block _ (loh HX12x.out)).trans HX12x.out
          have HTK := hdL htk; have HB13 := hdL (hbx.out.trans (hb13.mono hbx.out.size))
          obtain ⟨f0, f1, f2, f3, f4, f5, f6, f7, f8, f9⟩ := cells10 hx13
          obtain ⟨d0, d1, d2, d3, d4, d5, d6, d7, d8, d9⟩ := cells10 g12
          clear hx hE3 hS' hT' hae hl hax hcx htk hbq hee hb13 hx13 g12 z1 z2
          cases nb
          ·cases bq
           ·go_wp2_with fail
            go_roundw
            case rel => exact ⟨r + 1, false, rfl, by go_num, hlt3, hdL (by rw [HTK.out, ← hnb.out]; rfl), HB13⟩
            case measure => first | (simp [intOf]; done) | (simp [intOf]; omega)
           ·obtain ⟨bs, hbs⟩ : ∃ b, b = decide (sgu = sgz) := ⟨_, rfl⟩
            have hsg : ((sgu : Int) == sgz) = bs := by rw [hbs]; rfl
            have HBS := hdL hbs; clear hbs
            go_wp2_with fail
            go_roundw
            case rel => exact ⟨r + 1, bs, rfl, by go_num, hlt3, hdL (by rw [HTK.out, ← hnb.out, HBS.out]; rfl), HB13⟩
            case measure => first | (simp [intOf]; done) | (simp [intOf]; omega)
          ·go_wp2_with fail
           go_roundw
           case rel => exact ⟨r + 1, true, rfl, by go_num, hlt3, hdL (by rw [HTK.out, ← hnb.out]; rfl), HB13⟩
           case measure => first | (simp [intOf]; done) | (simp [intOf]; omega)
         ·obtain rfl : r = n := by omega
          have hnt : nb = true := by
           rw [hnb.out, tLe (by have := HMP.out; rw [← this, List.length_map, ← HOS.out.1]; exact Nat.le_refl _)]
           exact List.any_eq_true.2 ⟨z.1, HZM.out, by unfold eqE; simp⟩
          subst hnt
          have HUX := hdL (HU12.out.trans (hbx.out.mono HU12.out.size))
          go_wp2_with fail
          go_roundw
          case rel => exact ⟨m + 1, by go_num, hlt2, H8X, HUX⟩
          case measure => first | (simp [intOf]; done) | (simp [intOf]; omega)
       ·obtain rfl : m = n2' := by omega
        go_wp2_with fail
        go_roundw
        case rel => exact ⟨k + 1, by go_num, hlt, hb8w⟩
        case measure => first | (simp [intOf]; done) | (simp [intOf]; omega)
    ·obtain rfl : k = n := by omega
     go_wp2_with fail
     go_ret
     exact ⟨rfl, HB8.out.trans (hbw.out.mono HB8.out.size)⟩
  ·have hpn : ((pe : Int) != 0) = true := by simp; exact hpe
   clear hpe
   go_wp2_with fail
   go_ret
   exact ⟨rfl, HB8.out⟩
end Go.Proofs.YtaagkndhgicifaaGreat
