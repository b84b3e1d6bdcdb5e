/- DERIVED. What is answered holds, walked. (Printed by a program.) -/
import Derived.Test.YtnbeklmjinnbaaaGreatSolLw
import Derived.Test.YtnbeklmjinnbaaaGreatRHolds
namespace Go.Proofs.YtnbeklmjinnbaaaGreat
open Go.RowKit Go.Shelf
set_option linter.unusedVariables false
set_option linter.unusedSimpArgs false
set_option maxRecDepth 100000

set_option maxHeartbeats 32000000 in
theorem holds_any (w : World) (cs : List Value) (x : Cs) (hx : CaseAt w cs x) :
    Calls Tryz.prog 4 #[.agg cs.toArray] w (fun e w' => e = .returned (.bool true) ∧ Below w.heap.size w w') := by
  have hbg := fun W (hW : Below w.heap.size w W) => begun_any W cs x (hx.below hW)
  obtain ⟨v0, v1, v2, rfl, hsc, hpl, hle, hmo, hmn, hlw⟩ := hx
  obtain ⟨a0, c0, rfl, -⟩ := hsc
  obtain ⟨a5, c5, rfl, -⟩ := hle
  obtain ⟨a6, c6, rfl, -⟩ := hmo
  replace hbg : ∀ W, Below w.heap.size w W → Calls _ _ #[.agg #[.slice a0 x.script.length c0, strV x.p.1, .int .i64 x.p.2.1, .int .i64 x.p.2.2.1, .int .i64 x.p.2.2.2, .slice a5 x.less.length c5, .slice a6 x.more.length c6, .int .i64 x.left]] W _ := hbg
  show Calls _ _ #[.agg #[.slice a0 x.script.length c0, strV x.p.1, .int .i64 x.p.2.1, .int .i64 x.p.2.2.1, .int .i64 x.p.2.2.2, .slice a5 x.less.length c5, .slice a6 x.more.length c6, .int .i64 x.left]] _ _
  obtain ⟨T, -, hT, -, -⟩ := strV_is x.p.1
  rw [hT] at hbg ⊢
  obtain ⟨n0, hn0⟩ : ∃ y, y = x.script.length := ⟨_, rfl⟩
  obtain ⟨n5, hn5⟩ : ∃ y, y = x.less.length := ⟨_, rfl⟩
  obtain ⟨n6, hn6⟩ : ∃ y, y = x.more.length := ⟨_, rfl⟩
  obtain ⟨p1, hp1⟩ : ∃ y, y = x.p.2.1 := ⟨_, rfl⟩
  obtain ⟨p2, hp2⟩ : ∃ y, y = x.p.2.2.1 := ⟨_, rfl⟩
  obtain ⟨p3, hp3⟩ : ∃ y, y = x.p.2.2.2 := ⟨_, rfl⟩
  obtain ⟨lf, hlf⟩ : ∃ y, y = x.left := ⟨_, rfl⟩
  rw [← hn0, ← hn5, ← hn6, ← hp1, ← hp2, ← hp3, ← hlf] at hbg ⊢
  obtain ⟨w0, hw0, hb0, hx0, y1, y2⟩ := any_block w #[.slice a0 n0 c0, .string T, .int .i64 p1, .int .i64 p2, .int .i64 p3, .slice a5 n5 c5, .slice a6 n6 c6, .int .i64 lf] 30
  have HBG := Lib.hid hbg; have HB0 := Lib.hid hb0; have G10 := Lib.hid hx0; have HT := Lib.hid (And.intro hT (And.intro hp1 (And.intro hp2 hp3)))
  clear hbg hb0 hx0 hT hn0 hn5 hn6 hp1 hp2 hp3 hlf hpl hmn hlw y1 y2
  go_enter Tryz.func4, Tryz.ntmps4
  go_wp2_with fail
  refine (alive_any _).mono ?_
  rintro e w1 ⟨rfl, h1⟩
  have G11 := Lib.hid ((h1.block _ (lt_of_heap G10.out)).trans G10.out)
  have HB1 := Lib.hid (HB0.out.trans (h1.mono HB0.out.size))
  clear h1
  have u0 := cell_of_heap G11.out 0
  have u1 := cell_of_heap G11.out 1
  have u2 := cell_of_heap G11.out 2
  have u3 := cell_of_heap G11.out 3
  have u4 := cell_of_heap G11.out 4
  have u5 := cell_of_heap G11.out 5
  have u6 := cell_of_heap G11.out 6
  have u7 := cell_of_heap G11.out 7
  go_wp2_with fail
  refine (HBG.out _ HB1.out).mono ?_
  rintro e w2 ⟨h2, B, a1, n1, c1, a2, n2, c2, ap, np, cp, ok, rfl, hok⟩
  obtain ⟨w3, hw3, hb3, hx3, y1, y2⟩ := any_block w2 #[.slice a1 n1 c1, .slice a2 n2 c2] 35
  obtain ⟨b4, hb4⟩ : ∃ b, w2.heap.size = b := ⟨_, rfl⟩
  rw [hb4] at hx3
  have h23 := h2.trans (hb3.mono h2.size)
  have G13 := Lib.hid ((h23.block _ (lt_of_heap G11.out)).trans G11.out)
  have G43 := Lib.hid hx3; have HB3 := Lib.hid (HB1.out.trans (h23.mono HB1.out.size)); have H23 := Lib.hid hb3; have HOK := Lib.hid hok
  clear h2 hb3 hx3 h23 hok y1 y2 u0 u1 u2 u3 u4 u5 u6 u7
  have u0 := cell_of_heap G13.out 0
  have u1 := cell_of_heap G13.out 1
  have u2 := cell_of_heap G13.out 2
  have u3 := cell_of_heap G13.out 3
  have u4 := cell_of_heap G13.out 4
  have u5 := cell_of_heap G13.out 5
  have u6 := cell_of_heap G13.out 6
  have u7 := cell_of_heap G13.out 7
  have s0 := cell_of_heap G43.out 0
  have s1 := cell_of_heap G43.out 1
  cases ok
  · go_wp2_with fail
    go_ret
    exact ⟨rfl, HB3.out⟩
  by_cases hl : 400 < lf
  · go_wp2_with fail
    go_ret
    exact ⟨rfl, HB3.out⟩
  obtain ⟨st, pool, htwo, hrow, hpl⟩ := HOK.out rfl
  have hP := (hrow.below H23.out).all (by omega)
  have TWO := Lib.hid (htwo.below H23.out); have HPOOL := Lib.hid hP; have HROW := Lib.hid (hrow.below H23.out); have HPL := Lib.hid hpl
  clear htwo hrow hP hpl
  have hs := fun W (hW : Below w3.heap.size w3 W) => (TWO.out.below hW).solve (HPOOL.out.below hW) x.p lf (by omega)
  rw [HT.out.1, ← HT.out.2.1, ← HT.out.2.2.1, ← HT.out.2.2.2] at hs
  have hlen := solveT_len (st := st) (p := x.p) (pool := pool) (show lf ≤ 2000 by omega)
  obtain ⟨res, hres⟩ : ∃ r, r = solveT st x.p pool lf := ⟨_, rfl⟩
  rw [← hres] at hs hlen
  obtain ⟨⟨t, c⟩, m, e0⟩ := res
  obtain ⟨t1, ht1⟩ : ∃ y, t.2.1 = y := ⟨_, rfl⟩
  obtain ⟨t2, ht2⟩ : ∃ y, t.2.2.1 = y := ⟨_, rfl⟩
  obtain ⟨t3, ht3⟩ : ∃ y, t.2.2.2 = y := ⟨_, rfl⟩
  have Hsn : ∀ W, Below w3.heap.size w3 W → Calls _ _ _ W (fun e w' => ∃ (s : ByteArray) (a : Option Addr) (n k : Nat), n = c.length ∧ strV t.1 = .string s ∧ e = .returned (.tuple #[.agg #[.string s, .int .i64 t1, .int .i64 t2, .int .i64 t3, .slice a n k], .int .i64 m, .int .i64 e0]) ∧ ownsC w' W.heap.size 26 4 (.slice a n k) c.length (c.flatMap pkL) ∧ Below W.heap.size W w') := fun W hW => (hs W hW).mono (fun e w' h => by obtain ⟨s, a, n, k, h1, h2, h3, h4, h5⟩ := h.shape; rw [ht1, ht2, ht3] at h3; exact ⟨s, a, n, k, h1, h2, h3, h4, h5⟩)
  have hgood := fun (he : e0 = 0) => solve_holds (by rw [he] at hres; exact hres.symm)
  have hbad := fun (he : e0 ≠ 0) => solve_bad hres.symm he
  have hh := fun W (hW : Below w3.heap.size w3 W) vc (hc : PkgsAt zAll W vc c) => rholds_any W _ st (TWO.out.below hW).ref x.p _ pool (HPOOL.out.below hW) t c vc hc (by dsimp only at hlen; omega)
  rw [HT.out.1, ← HT.out.2.1, ← HT.out.2.2.1, ← HT.out.2.2.2, ht1, ht2, ht3] at hh
  have HS := Lib.hid Hsn; have HH := Lib.hid hh; have HGD := Lib.hid hgood; have HBD := Lib.hid hbad; have HLEN := Lib.hid (show c.length ≤ 2000 from hlen); have HTN := Lib.hid (And.intro ht1 (And.intro ht2 ht3))
  clear hs Hsn hh hgood hbad hlen hres ht1 ht2 ht3
  have HC3 := Lib.hid (Below.refl w3.heap.size w3)
  go_wp2_with fail
  refine (HS.out _ HC3.out).mono ?_
  intro e v5 hsp
  obtain ⟨sA, aA, nA, kA, hnA, hsA, rfl, hoA, h4⟩ := hsp
  have hpA := (pkgs_ownsC hoA rfl (by have := HLEN.out; omega)).keep (Z' := zAll) ⟨fun _ _ _ => trivial, Nat.le_refl _, fun _ _ _ h => h⟩
  obtain ⟨w5, hw5, hbw, hx5, y1, y2⟩ := any_block v5 #[.string sA, .int .i64 t1, .int .i64 t2, .int .i64 t3, .slice aA nA kA] 39
  obtain ⟨b5, hb5⟩ : ∃ b, v5.heap.size = b := ⟨_, rfl⟩
  rw [hb5] at hx5
  have h45 := h4.trans (hbw.mono h4.size)
  have HW35 := Lib.hid (show w3.heap.size ≤ b5 by rw [← hb5]; exact h4.size)
  have HZ5 := Lib.hid (show w3.heap.size ≤ b5 by rw [← hb5]; exact Nat.le_trans HC3.out.size h4.size)
  clear u0 u1 u2 u3 u4 u5 u6 u7 s0 s1
  have G15 := Lib.hid ((h45.block _ (lt_of_heap G13.out)).trans G13.out); have G45 := Lib.hid ((h45.block _ (lt_of_heap G43.out)).trans G43.out); have HC5 := Lib.hid (HC3.out.trans (h45.mono HC3.out.size)); have HB5 := Lib.hid (HB3.out.trans (h45.mono HB3.out.size))
  have RA5 := Lib.hid hx5; have HPA5 := Lib.hid (hpA.below hbw); have HSA := Lib.hid hsA; have HOA5 := Lib.hid (ownsC_below hoA hbw); have HNA := Lib.hid hnA
  clear hpA hoA hsA hnA h4 hbw hx5 h45 y1 y2
  have u0 := cell_of_heap G15.out 0
  have u1 := cell_of_heap G15.out 1
  have u2 := cell_of_heap G15.out 2
  have u3 := cell_of_heap G15.out 3
  have u4 := cell_of_heap G15.out 4
  have u5 := cell_of_heap G15.out 5
  have u6 := cell_of_heap G15.out 6
  have u7 := cell_of_heap G15.out 7
  have s0 := cell_of_heap G45.out 0
  have s1 := cell_of_heap G45.out 1
  have ra0 := cell_of_heap RA5.out 0
  have ra1 := cell_of_heap RA5.out 1
  have ra2 := cell_of_heap RA5.out 2
  have ra3 := cell_of_heap RA5.out 3
  have ra4 := cell_of_heap RA5.out 4
  by_cases he : e0 = 0
  · obtain ⟨hg1, hg2, hg3, hg4⟩ := HGD.out he
    subst he
    try dsimp only at hg2 hg3
    rw [← HNA.out] at hg3
    have hnA2 : nA ≤ 2000 := by rw [HNA.out]; exact HLEN.out
    have HG1 := Lib.hid hg1; have HG2 := Lib.hid hg2
    clear hg1 hg2
    go_wp2_with fail
    clear ra0 ra1 ra2 ra3 ra4 u0 u1 u2 u3 u4 u5 u6 u7 s0 s1
    go_loopw [10] (fun x wr => ∃ k : Nat, x = .int .i64 ((k + 1 : Nat) : Int) ∧ k ≤ nA ∧ Hid (Below w5.heap.size w5 wr)) (fun x _ => nA + 1 - (intOf x).toNat)
    case atStart => exact ⟨0, rfl, Nat.zero_le _, Lib.hid (Below.refl _ _)⟩
    case round =>
      obtain ⟨k, rfl, hk, hbw⟩ := hrel
      have hra := (hbw.out.block _ (lt_of_heap RA5.out)).trans RA5.out
      have ra0 := cell_of_heap hra 0
      have ra1 := cell_of_heap hra 1
      have ra2 := cell_of_heap hra 2
      have ra3 := cell_of_heap hra 3
      have ra4 := cell_of_heap hra 4
      by_cases hlt : k + 1 < nA
      · obtain ⟨y, hy⟩ : ∃ y, c[k]? = some y := ⟨_, List.getElem?_eq_getElem (by rw [← HNA.out]; omega)⟩
        obtain ⟨q, hq⟩ : ∃ q, c[k + 1]? = some q := ⟨_, List.getElem?_eq_getElem (by rw [← HNA.out]; exact hlt)⟩
        obtain ⟨bP, oP, S, rfl, hS, c0, -⟩ := (HPA5.out.below hbw.out).cells hy
        obtain ⟨bQ, oQ, T2, eQ, hT2, d0, -⟩ := (HPA5.out.below hbw.out).cells hq
        obtain ⟨rfl, rfl⟩ : bP = bQ ∧ oP = oQ := by simpa using eQ
        obtain ⟨S', -, hS', hS2, -⟩ := strV_is y.1
        obtain rfl : S = S' := by rw [hS] at hS'; injection hS'
        obtain ⟨T', -, hT', hT3, -⟩ := strV_is q.1
        obtain rfl : T2 = T' := by rw [hT2] at hT'; injection hT'
        have hlss : Op.bytesLess y.1 q.1 = true := by
          have h1 := List.pairwise_iff_getElem.1 HG2.out k (k + 1) (List.getElem?_eq_some_iff.1 hy).1 (List.getElem?_eq_some_iff.1 hq).1 (by omega)
          rw [(List.getElem?_eq_some_iff.1 hy).2, (List.getElem?_eq_some_iff.1 hq).2] at h1
          exact h1
        have hl1 : Op.bytesLess S.toList T2.toList = true := by rw [Lib.toList_data, Lib.toList_data, hS2, hT3]; exact hlss
        have hl2 : Op.bytesLess S.data.toList T2.data.toList = true := by rw [hS2, hT3]; exact hlss
        have hsub : (((k + 1 : Nat) : Int) - 1) = (k : Int) := by omega
        clear hy hq hS hT2 eQ hS' hT' hS2 hT3 hlss hra
        go_upto_region 12 with fail
        go_big_region
        go_wp2_with fail
        go_roundw
        case rel => exact ⟨k + 1, by go_num, by omega, Lib.hid (below_drewN_of hbw.out)⟩
        case measure => first | (simp [intOf]; done) | (simp [intOf]; omega)
      · clear hra ra0 ra1 ra2 ra3 ra4
        obtain ⟨w6, hw6⟩ : ∃ W, W = wr := ⟨_, rfl⟩
        subst hw6
        have HPA6 := Lib.hid (HPA5.out.below hbw.out)
        have HOA6 := Lib.hid (ownsC_below HOA5.out hbw.out)
        have G16 := Lib.hid ((hbw.out.block _ (lt_of_heap G15.out)).trans G15.out); have G46 := Lib.hid ((hbw.out.block _ (lt_of_heap G45.out)).trans G45.out); have RA6 := Lib.hid ((hbw.out.block _ (lt_of_heap RA5.out)).trans RA5.out); have HC6 := Lib.hid (HC5.out.trans (hbw.out.mono HC5.out.size)); have HB6 := Lib.hid (HB5.out.trans (hbw.out.mono HB5.out.size))
        have u0 := cell_of_heap G16.out 0
        have u1 := cell_of_heap G16.out 1
        have u2 := cell_of_heap G16.out 2
        have u3 := cell_of_heap G16.out 3
        have u4 := cell_of_heap G16.out 4
        have u5 := cell_of_heap G16.out 5
        have u6 := cell_of_heap G16.out 6
        have u7 := cell_of_heap G16.out 7
        have s0 := cell_of_heap G46.out 0
        have s1 := cell_of_heap G46.out 1
        have ra0 := cell_of_heap RA6.out 0
        have ra1 := cell_of_heap RA6.out 1
        have ra2 := cell_of_heap RA6.out 2
        have ra3 := cell_of_heap RA6.out 3
        have ra4 := cell_of_heap RA6.out 4
        have hh := HH.out w6 HC6.out _ HPA6.out
        rw [HSA.out, HG1.out] at hh
        have HHX := Lib.hid hh
        clear hh
        go_wp2_with fail
        refine HHX.out.mono ?_
        rintro e w7 ⟨rfl, h7⟩
        clear u0 u1 u2 u3 u4 u5 u6 u7 s0 s1 ra0 ra1 ra2 ra3 ra4
        have HPA7 := Lib.hid (HPA6.out.below h7)
        have HOA7 := Lib.hid (ownsC_below HOA6.out h7)
        have G17 := Lib.hid ((h7.block _ (lt_of_heap G16.out)).trans G16.out); have G47 := Lib.hid ((h7.block _ (lt_of_heap G46.out)).trans G46.out); have RA7 := Lib.hid ((h7.block _ (lt_of_heap RA6.out)).trans RA6.out); have HC7 := Lib.hid (HC6.out.trans (h7.mono HC6.out.size)); have HB7 := Lib.hid (HB6.out.trans (h7.mono HB6.out.size))
        clear h7
        have u0 := cell_of_heap G17.out 0
        have u1 := cell_of_heap G17.out 1
        have u2 := cell_of_heap G17.out 2
        have u3 := cell_of_heap G17.out 3
        have u4 := cell_of_heap G17.out 4
        have u5 := cell_of_heap G17.out 5
        have u6 := cell_of_heap G17.out 6
        have u7 := cell_of_heap G17.out 7
        have s0 := cell_of_heap G47.out 0
        have s1 := cell_of_heap G47.out 1
        have ra0 := cell_of_heap RA7.out 0
        have ra1 := cell_of_heap RA7.out 1
        have ra2 := cell_of_heap RA7.out 2
        have ra3 := cell_of_heap RA7.out 3
        have ra4 := cell_of_heap RA7.out 4
        have hg5 : (1 + (nA : Int)) ≤ m := by omega
        go_wp2_with fail
        go_ret
        exact ⟨by first | rfl | simp, HB7.out⟩
  · obtain ⟨hb1, hb2⟩ := HBD.out he
    obtain ⟨rfl, rfl⟩ := Prod.mk.inj hb1
    obtain rfl : nA = 0 := HNA.out
    obtain rfl : sA = ⟨#[]⟩ := by have h1 := HSA.out; injection h1 with h1; exact h1.symm
    obtain rfl : t1 = 0 := HTN.out.1.symm
    obtain rfl : t2 = 0 := HTN.out.2.1.symm
    obtain rfl : t3 = 0 := HTN.out.2.2.symm
    have hne : ((e0 : Int) == 0) = false := by simp; exact he
    clear hb1
    have hq0 : ∀ W, (binOp .eql 26 (.agg #[.string ⟨#[]⟩, .int .i64 0, .int .i64 0, .int .i64 0]) (.agg #[.string ⟨#[]⟩, .int .i64 0, .int .i64 0, .int .i64 0])).run Tryz.prog W = .ok (.bool true) W := fun W => eqPk2 pk0 pk0 rfl rfl W
    go_wp2_with fail
    go_ret
    exact ⟨by first | rfl | simp, HB5.out⟩
end Go.Proofs.YtnbeklmjinnbaaaGreat
