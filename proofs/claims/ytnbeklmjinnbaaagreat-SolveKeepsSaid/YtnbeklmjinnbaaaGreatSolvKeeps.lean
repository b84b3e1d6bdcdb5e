/- DERIVED. What is handed in stays, what is answered is its own, walked. (Printed by a program.) -/
import Derived.Test.YtnbeklmjinnbaaaGreatSolLw
namespace Go.Proofs.YtnbeklmjinnbaaaGreat
open Go.RowKit Go.Shelf
set_option linter.unusedVariables false
set_option linter.unusedSimpArgs false
set_option maxRecDepth 100000

set_option maxHeartbeats 32000000 in
theorem keeps_any (w : World) (cs : List Value) (x : Cs) (hx : CaseAt w cs x) :
    Calls Tryz.prog 7 #[.agg cs.toArray] w (fun e w' => e = .returned (.bool true) ∧ Below w.heap.size w w') := by
  have hbg := fun W (hW : Below w.heap.size w W) => begun_any W cs x (hx.below hW)
  obtain ⟨v0, v1, v2, rfl, hsc, hpl, hle, hmo, hmn, hlw⟩ := hx
  obtain ⟨a0, c0, rfl, -⟩ := hsc
  obtain ⟨a5, c5, rfl, -⟩ := hle
  obtain ⟨a6, c6, rfl, -⟩ := hmo
  replace hbg : ∀ W, Below w.heap.size w W → Calls _ _ #[.agg #[.slice a0 x.script.length c0, strV x.p.1, .int .i64 x.p.2.1, .int .i64 x.p.2.2.1, .int .i64 x.p.2.2.2, .slice a5 x.less.length c5, .slice a6 x.more.length c6, .int .i64 x.left]] W _ := hbg
  show Calls _ _ #[.agg #[.slice a0 x.script.length c0, strV x.p.1, .int .i64 x.p.2.1, .int .i64 x.p.2.2.1, .int .i64 x.p.2.2.2, .slice a5 x.less.length c5, .slice a6 x.more.length c6, .int .i64 x.left]] _ _
  obtain ⟨T, -, hT, -, -⟩ := strV_is x.p.1
  rw [hT] at hbg ⊢
  obtain ⟨n0, hn0⟩ : ∃ y, y = x.script.length := ⟨_, rfl⟩
  obtain ⟨n5, hn5⟩ : ∃ y, y = x.less.length := ⟨_, rfl⟩
  obtain ⟨n6, hn6⟩ : ∃ y, y = x.more.length := ⟨_, rfl⟩
  obtain ⟨p1, hp1⟩ : ∃ y, y = x.p.2.1 := ⟨_, rfl⟩
  obtain ⟨p2, hp2⟩ : ∃ y, y = x.p.2.2.1 := ⟨_, rfl⟩
  obtain ⟨p3, hp3⟩ : ∃ y, y = x.p.2.2.2 := ⟨_, rfl⟩
  obtain ⟨lf, hlf⟩ : ∃ y, y = x.left := ⟨_, rfl⟩
  rw [← hn0, ← hn5, ← hn6, ← hp1, ← hp2, ← hp3, ← hlf] at hbg ⊢
  obtain ⟨w0, hw0, hb0, hx0, y1, y2⟩ := any_block w #[.slice a0 n0 c0, .string T, .int .i64 p1, .int .i64 p2, .int .i64 p3, .slice a5 n5 c5, .slice a6 n6 c6, .int .i64 lf] 30
  have HBG := Lib.hid hbg; have HB0 := Lib.hid hb0; have G10 := Lib.hid hx0; have HT := Lib.hid (And.intro hT (And.intro hp1 (And.intro hp2 hp3)))
  clear hbg hb0 hx0 hT hn0 hn5 hn6 hp1 hp2 hp3 hlf hpl hmn hlw y1 y2
  go_enter Tryz.func7, Tryz.ntmps7
  go_wp2_with fail
  refine (alive_any _).mono ?_
  rintro e w1 ⟨rfl, h1⟩
  have G11 := Lib.hid ((h1.block _ (lt_of_heap G10.out)).trans G10.out)
  have HB1 := Lib.hid (HB0.out.trans (h1.mono HB0.out.size))
  clear h1
  have u0 := cell_of_heap G11.out 0
  have u1 := cell_of_heap G11.out 1
  have u2 := cell_of_heap G11.out 2
  have u3 := cell_of_heap G11.out 3
  have u4 := cell_of_heap G11.out 4
  have u5 := cell_of_heap G11.out 5
  have u6 := cell_of_heap G11.out 6
  have u7 := cell_of_heap G11.out 7
  go_wp2_with fail
  refine (HBG.out _ HB1.out).mono ?_
  rintro e w2 ⟨h2, B, a1, n1, c1, a2, n2, c2, ap, np, cp, ok, rfl, hok⟩
  obtain ⟨w3, hw3, hb3, hx3, y1, y2⟩ := any_block w2 #[.slice a1 n1 c1, .slice a2 n2 c2] 35
  obtain ⟨b4, hb4⟩ : ∃ b, w2.heap.size = b := ⟨_, rfl⟩
  rw [hb4] at hx3
  have h23 := h2.trans (hb3.mono h2.size)
  have G13 := Lib.hid ((h23.block _ (lt_of_heap G11.out)).trans G11.out)
  have G43 := Lib.hid hx3; have HB3 := Lib.hid (HB1.out.trans (h23.mono HB1.out.size)); have H23 := Lib.hid hb3; have HOK := Lib.hid hok
  clear h2 hb3 hx3 h23 hok y1 y2 u0 u1 u2 u3 u4 u5 u6 u7
  have u0 := cell_of_heap G13.out 0
  have u1 := cell_of_heap G13.out 1
  have u2 := cell_of_heap G13.out 2
  have u3 := cell_of_heap G13.out 3
  have u4 := cell_of_heap G13.out 4
  have u5 := cell_of_heap G13.out 5
  have u6 := cell_of_heap G13.out 6
  have u7 := cell_of_heap G13.out 7
  have s0 := cell_of_heap G43.out 0
  have s1 := cell_of_heap G43.out 1
  cases ok
  · go_wp2_with fail
    go_ret
    exact ⟨rfl, HB3.out⟩
  by_cases hl : 400 < lf
  · go_wp2_with fail
    go_ret
    exact ⟨rfl, HB3.out⟩
  obtain ⟨st, pool, htwo, hrow, hpl⟩ := HOK.out rfl
  have hP := (hrow.below H23.out).all (by omega)
  have TWO := Lib.hid (htwo.below H23.out); have HPOOL := Lib.hid hP; have HROW := Lib.hid (hrow.below H23.out); have HPL := Lib.hid hpl
  clear htwo hrow hP hpl
  have hform := HROW.out.form
  obtain ⟨_, _, e9⟩ := hform
  obtain ⟨-, hnp, -⟩ := Value.slice.inj e9
  clear e9
  have hnp2 : np ≤ 200 := by have := HPL.out; omega
  obtain ⟨iP, hiP, hzP0, hzP1, hzP2⟩ := info_parts infoPkg
  have HI := Lib.hid (And.intro hiP (And.intro hzP0 (And.intro hzP1 hzP2)))
  obtain ⟨wE, hwE, hbE, hxE, y1, y2⟩ := any_block w3 #[] 26
  obtain ⟨gE, hgE⟩ : ∃ b, w3.heap.size = b := ⟨_, rfl⟩
  rw [hgE] at hxE
  have hemp := owns_emptyR wE w3.heap.size 26 4 (by omega) hxE
  have hsrc := (HPOOL.out.below hbE).src
  rw [← hnp] at hsrc
  have HEMP := Lib.hid hemp; have HSRC := Lib.hid hsrc; have HBE := Lib.hid hbE; have HGE := Lib.hid (show w3.heap.size ≤ gE from by omega); have HNP := Lib.hid hnp
  clear hemp hsrc hbE hxE hnp hiP hzP0 hzP1 hzP2 y1 y2
  go_upto_region 7 with (first | (at_builtin; refine wpList_append_srcs rfl (.tmp 34) (.tmp 35) 28 28 rfl w3.heap.size 26 iP _ 4 40 Tryz.underlying28 HI.out.1 HI.out.2.1 HI.out.2.2.1 HI.out.2.2.2 rfl (by decide) (.slice (some ⟨gE, 0, none⟩) 0 0) rfl 0 [] HEMP.out (.slice ap np cp) rfl np (pool.flatMap pkL) HSRC.out (by unfold maxLen; omega) (by omega) HBE.out.size ?_; intro aM cM w4 hown hgrow _ _; simp only [Nat.zero_add, List.nil_append] at hown ⊢; have HOWN := Lib.hid hown; have HGROW := Lib.hid hgrow; clear hown hgrow) | fail)
  have hbQ := below_grownR HBE.out (v := .slice (some ⟨gE, 0, none⟩) 0 0) HGROW.out (fun g hg => (by simpa [Value.ownBlock] using hg : gE = g) ▸ HGE.out)
  have hrowM : PkRow w3.heap.size w4 (.slice aM np cM) pool := by
    unfold PkRow
    rw [← HNP.out]
    exact HOWN.out
  have G14 := Lib.hid ((hbQ.block _ (lt_of_heap G13.out)).trans G13.out); have G44 := Lib.hid ((hbQ.block _ (lt_of_heap G43.out)).trans G43.out)
  have HM4 := Lib.hid (hrowM.all (by have := HPL.out; omega)); have HPO4 := Lib.hid (HPOOL.out.below hbQ); have TWO4 := Lib.hid (TWO.out.below hbQ); have HB4 := Lib.hid (HB3.out.trans (hbQ.mono HB3.out.size))
  clear hbQ hrowM u0 u1 u2 u3 u4 u5 u6 u7 s0 s1
  have hs := fun W (hW : Below w4.heap.size w4 W) => (TWO4.out.below hW).solve (HM4.out.below hW) x.p lf (by omega)
  have hr := fun W (hW : Below w4.heap.size w4 W) => (TWO4.out.below hW).rsolve (HPO4.out.below hW) x.p lf (by omega)
  rw [HT.out.1, ← HT.out.2.1, ← HT.out.2.2.1, ← HT.out.2.2.2] at hs hr
  have hlen := solveT_len (st := st) (p := x.p) (pool := pool) (show lf ≤ 2000 by omega)
  obtain ⟨res, hres⟩ : ∃ r, r = solveT st x.p pool lf := ⟨_, rfl⟩
  rw [← hres] at hs hr hlen
  obtain ⟨⟨t, c⟩, m, e0⟩ := res
  obtain ⟨t1, ht1⟩ : ∃ y, t.2.1 = y := ⟨_, rfl⟩
  obtain ⟨t2, ht2⟩ : ∃ y, t.2.2.1 = y := ⟨_, rfl⟩
  obtain ⟨t3, ht3⟩ : ∃ y, t.2.2.2 = y := ⟨_, rfl⟩
  have Hsn : ∀ W, Below w4.heap.size w4 W → Calls _ _ _ W (fun e w' => ∃ (s : ByteArray) (a : Option Addr) (n k : Nat), n = c.length ∧ strV t.1 = .string s ∧ e = .returned (.tuple #[.agg #[.string s, .int .i64 t1, .int .i64 t2, .int .i64 t3, .slice a n k], .int .i64 m, .int .i64 e0]) ∧ ownsC w' W.heap.size 26 4 (.slice a n k) c.length (c.flatMap pkL) ∧ Below W.heap.size W w') := fun W hW => (hs W hW).mono (fun e w' h => by obtain ⟨s, a, n, k, h1, h2, h3, h4, h5⟩ := h.shape; rw [ht1, ht2, ht3] at h3; exact ⟨s, a, n, k, h1, h2, h3, h4, h5⟩)
  have Hrn : ∀ W, Below w4.heap.size w4 W → Calls _ _ _ W (fun e w' => ∃ (s : ByteArray) (a : Option Addr) (n k : Nat), n = c.length ∧ strV t.1 = .string s ∧ e = .returned (.tuple #[.agg #[.string s, .int .i64 t1, .int .i64 t2, .int .i64 t3, .slice a n k], .int .i64 m, .int .i64 e0]) ∧ PkgsAt zAll w' (.slice a n k) c ∧ Below W.heap.size W w') := fun W hW => (hr W hW).mono (fun e w' h => by obtain ⟨s, a, n, k, h1, h2, h3, h4, h5⟩ := h.shape; rw [ht1, ht2, ht3] at h3; exact ⟨s, a, n, k, h1, h2, h3, h4, h5⟩)
  have HS := Lib.hid Hsn; have HR := Lib.hid Hrn; have HLEN := Lib.hid (show c.length ≤ 2000 from hlen); have HTN := Lib.hid (And.intro ht1 (And.intro ht2 ht3))
  clear hs hr Hsn Hrn hlen hres ht1 ht2 ht3
  have HC4 := Lib.hid (Below.refl w4.heap.size w4)
  have u0 := cell_of_heap G14.out 0
  have u1 := cell_of_heap G14.out 1
  have u2 := cell_of_heap G14.out 2
  have u3 := cell_of_heap G14.out 3
  have u4 := cell_of_heap G14.out 4
  have u5 := cell_of_heap G14.out 5
  have u6 := cell_of_heap G14.out 6
  have u7 := cell_of_heap G14.out 7
  have s0 := cell_of_heap G44.out 0
  have s1 := cell_of_heap G44.out 1
  go_wp2_with fail
  refine (HS.out _ HC4.out).mono ?_
  intro e v5 hsp
  obtain ⟨sA, aA, nA, kA, hnA, hsA, rfl, hoA, h4⟩ := hsp
  have hpA := (pkgs_ownsC hoA rfl (by have := HLEN.out; omega)).keep (Z' := zAll) ⟨fun _ _ _ => trivial, Nat.le_refl _, fun _ _ _ h => h⟩
  obtain ⟨w5, hw5, hbw, hx5, y1, y2⟩ := any_block v5 #[.string sA, .int .i64 t1, .int .i64 t2, .int .i64 t3, .slice aA nA kA] 39
  obtain ⟨b5, hb5⟩ : ∃ b, v5.heap.size = b := ⟨_, rfl⟩
  rw [hb5] at hx5
  have h45 := h4.trans (hbw.mono h4.size)
  clear u0 u1 u2 u3 u4 u5 u6 u7 s0 s1
  have HM5 := Lib.hid (HM4.out.below h45)
  have HPO5 := Lib.hid (HPO4.out.below h45)
  have G15 := Lib.hid ((h45.block _ (lt_of_heap G14.out)).trans G14.out); have G45 := Lib.hid ((h45.block _ (lt_of_heap G44.out)).trans G44.out); have HC5 := Lib.hid (HC4.out.trans (h45.mono HC4.out.size)); have HB5 := Lib.hid (HB4.out.trans (h45.mono HB4.out.size))
  have RA5 := Lib.hid hx5; have HPA5 := Lib.hid (hpA.below hbw); have HSA := Lib.hid hsA; have HOA5 := Lib.hid (ownsC_below hoA hbw); have HNA := Lib.hid hnA
  clear hpA hoA hsA hnA h4 hbw hx5 h45 y1 y2
  have u0 := cell_of_heap G15.out 0
  have u1 := cell_of_heap G15.out 1
  have u2 := cell_of_heap G15.out 2
  have u3 := cell_of_heap G15.out 3
  have u4 := cell_of_heap G15.out 4
  have u5 := cell_of_heap G15.out 5
  have u6 := cell_of_heap G15.out 6
  have u7 := cell_of_heap G15.out 7
  have s0 := cell_of_heap G45.out 0
  have s1 := cell_of_heap G45.out 1
  have ra0 := cell_of_heap RA5.out 0
  have ra1 := cell_of_heap RA5.out 1
  have ra2 := cell_of_heap RA5.out 2
  have ra3 := cell_of_heap RA5.out 3
  have ra4 := cell_of_heap RA5.out 4
  have hsm := rsame_any w5 zAll _ pool HM5.out zAll _ pool HPO5.out
  rw [decide_eq_true rfl] at hsm
  have HSM5 := Lib.hid hsm
  clear hsm
  go_wp2_with fail
  refine HSM5.out.mono ?_
  rintro e w6 ⟨rfl, h6⟩
  clear u0 u1 u2 u3 u4 u5 u6 u7 s0 s1 ra0 ra1 ra2 ra3 ra4
  have HM6 := Lib.hid (HM5.out.below h6)
  have HPO6 := Lib.hid (HPO5.out.below h6)
  have HPA6 := Lib.hid (HPA5.out.below h6)
  have HOA6 := Lib.hid (ownsC_below HOA5.out h6)
  have G16 := Lib.hid ((h6.block _ (lt_of_heap G15.out)).trans G15.out); have G46 := Lib.hid ((h6.block _ (lt_of_heap G45.out)).trans G45.out); have RA6 := Lib.hid ((h6.block _ (lt_of_heap RA5.out)).trans RA5.out); have HC6 := Lib.hid (HC5.out.trans (h6.mono HC5.out.size)); have HB6 := Lib.hid (HB5.out.trans (h6.mono HB5.out.size))
  clear h6
  have u0 := cell_of_heap G16.out 0
  have u1 := cell_of_heap G16.out 1
  have u2 := cell_of_heap G16.out 2
  have u3 := cell_of_heap G16.out 3
  have u4 := cell_of_heap G16.out 4
  have u5 := cell_of_heap G16.out 5
  have u6 := cell_of_heap G16.out 6
  have u7 := cell_of_heap G16.out 7
  have s0 := cell_of_heap G46.out 0
  have s1 := cell_of_heap G46.out 1
  have ra0 := cell_of_heap RA6.out 0
  have ra1 := cell_of_heap RA6.out 1
  have ra2 := cell_of_heap RA6.out 2
  have ra3 := cell_of_heap RA6.out 3
  have ra4 := cell_of_heap RA6.out 4
  obtain ⟨gS, hgS⟩ : ∃ S : List Nat, S = (Value.slice aA nA kA).ownBlock.toList := ⟨_, rfl⟩
  have hg4 : ∀ b ∈ gS, w4.heap.size ≤ b := fun b hb => by
    rw [hgS, Option.mem_toList] at hb
    rcases HOA6.out.2 with ⟨e1, -⟩ | ⟨g, cap, cur, e1, h1, -⟩
    · rw [e1] at hb; cases hb
    · rw [e1] at hb; obtain rfl : g = b := by simpa [Value.ownBlock] using hb
      exact h1
  have hgb : b5 ∉ gS := fun hb => by
    rw [hgS, Option.mem_toList] at hb
    rcases HOA6.out.2 with ⟨e1, -⟩ | ⟨g, cap, cur, e1, -, h1, -⟩
    · rw [e1] at hb; cases hb
    · rw [e1] at hb; obtain rfl : g = b5 := by simpa [Value.ownBlock] using hb
      exact cells_ne h1 RA6.out (by decide)
  have hog : nA = 0 ∨ ∃ g cur, aA = some ⟨g, 0, none⟩ ∧ g ∈ gS ∧ w6.heap[g]? = some (.cells cur 26 (0, 0)) ∧ nA * 4 ≤ cur.size := by
    rcases HOA6.out.2 with ⟨-, e2⟩ | ⟨g, cap, cur, e1, -, h1, h2, -, h3, -⟩
    · exact .inl (by rw [HNA.out]; exact e2)
    · obtain ⟨e1, e3, e4⟩ := Value.slice.inj e1
      refine .inr ⟨g, cur, e1, by rw [hgS, e1]; simp [Value.ownBlock], h1, ?_⟩
      have h4 : nA * 4 ≤ cap * 4 := by rw [HNA.out]; omega
      omega
  have hnA2 : nA ≤ 2000 := by rw [HNA.out]; exact HLEN.out
  have HG4 := Lib.hid hg4; have HGB := Lib.hid hgb; have HOG := Lib.hid hog
  clear hg4 hgb hog hgS
  go_wp2_with fail
  go_loopw [55] (fun x wr => ∃ k : Nat, x = .int .i64 k ∧ k ≤ nA ∧ Hid (nA = 0 ∨ ∃ g cur, aA = some ⟨g, 0, none⟩ ∧ g ∈ gS ∧ wr.heap[g]? = some (.cells cur 26 (0, 0)) ∧ nA * 4 ≤ cur.size) ∧ Hid (Ch gS w6 wr)) (fun x _ => nA - (intOf x).toNat)
  case atStart => exact ⟨0, rfl, Nat.zero_le _, HOG, Lib.hid (Ch.refl _ _)⟩
  case round =>
    obtain ⟨k, rfl, hk, hex, hch⟩ := hrel
    by_cases hlt : k < nA
    · obtain ⟨g, cur, rfl, hgm, hgc, hgs⟩ := hex.out.resolve_left (by omega)
      have hR := (hch.out.block b5 (lt_of_heap RA6.out) HGB.out).trans RA6.out
      have x0 := cell_of_heap hR 0
      have x1 := cell_of_heap hR 1
      have x2 := cell_of_heap hR 2
      have x3 := cell_of_heap hR 3
      have x4 := cell_of_heap hR 4
      obtain ⟨z0, hz0⟩ : ∃ z, cur[k * 4]? = some z := ⟨_, Array.getElem?_eq_getElem (by omega)⟩
      obtain ⟨z1, hz1⟩ : ∃ z, cur[k * 4 + 1]? = some z := ⟨_, Array.getElem?_eq_getElem (by omega)⟩
      obtain ⟨z2, hz2⟩ : ∃ z, cur[k * 4 + 2]? = some z := ⟨_, Array.getElem?_eq_getElem (by omega)⟩
      obtain ⟨z3, hz3⟩ : ∃ z, cur[k * 4 + 3]? = some z := ⟨_, Array.getElem?_eq_getElem (by omega)⟩
      have y0 := (cell_of_heap hgc (k * 4)).trans hz0
      have y1 := (cell_of_heap hgc (k * 4 + 1)).trans hz1
      have y2 := (cell_of_heap hgc (k * 4 + 2)).trans hz2
      have y3 := (cell_of_heap hgc (k * 4 + 3)).trans hz3
      have yf := frozen_of_heap hgc
      have e1 := heap_setCell_here (i := k * 4) (Value.string ⟨#[]⟩) hgc
      have e2 := heap_setCell_here (i := k * 4 + 1) (Value.int .i64 0) e1
      have e3 := heap_setCell_here (i := k * 4 + 2) (Value.int .i64 0) e2
      have e4 := heap_setCell_here (i := k * 4 + 3) (Value.int .i64 0) e3
      have hcn := (((hch.out.setCell (p := ⟨g, k * 4, none⟩) (.inl hgm) (Value.string ⟨#[]⟩)).setCell (p := ⟨g, k * 4 + 1, none⟩) (.inl hgm) (Value.int .i64 0)).setCell (p := ⟨g, k * 4 + 2, none⟩) (.inl hgm) (Value.int .i64 0)).setCell (p := ⟨g, k * 4 + 3, none⟩) (.inl hgm) (Value.int .i64 0)
      have E4 := Lib.hid e4; have HCN := Lib.hid hcn; have HGM := Lib.hid hgm; have HGS := Lib.hid hgs
      clear hgm hgc hgs hR hz0 hz1 hz2 hz3 e1 e2 e3 e4 hcn
      go_wp2_with fail
      go_roundw
      case rel => exact ⟨k + 1, by go_num, hlt, Lib.hid (.inr ⟨g, _, rfl, HGM.out, E4.out, by simpa using HGS.out⟩), HCN⟩
      case measure => simp [intOf]; omega
    · obtain rfl : nA = k := by omega
      obtain ⟨w8, hw8⟩ : ∃ W, W = wr := ⟨_, rfl⟩
      subst hw8
      have hb48 : Below w4.heap.size w4 w8 := HC6.out.trans (below_of_ch hch.out (fun b hb => HG4.out b hb) HC6.out.size)
      have G18 := Lib.hid ((hb48.block _ (lt_of_heap G14.out)).trans G14.out); have G48 := Lib.hid ((hb48.block _ (lt_of_heap G44.out)).trans G44.out)
      have HM8 := Lib.hid (HM4.out.below hb48); have HPO8 := Lib.hid (HPO4.out.below hb48); have HB8 := Lib.hid (HB4.out.trans (hb48.mono HB4.out.size)); have HC8 := Lib.hid hb48
      clear hb48 hch hex
      clear u0 u1 u2 u3 u4 u5 u6 u7 s0 s1 ra0 ra1 ra2 ra3 ra4
      have u0 := cell_of_heap G18.out 0
      have u1 := cell_of_heap G18.out 1
      have u2 := cell_of_heap G18.out 2
      have u3 := cell_of_heap G18.out 3
      have u4 := cell_of_heap G18.out 4
      have u5 := cell_of_heap G18.out 5
      have u6 := cell_of_heap G18.out 6
      have u7 := cell_of_heap G18.out 7
      have s0 := cell_of_heap G48.out 0
      have s1 := cell_of_heap G48.out 1
      go_wp2_with fail
      refine (HS.out _ HC8.out).mono ?_
      intro e v9 hsp
      obtain ⟨sB, aB, nB, kB, hnB, hsB, rfl, hoB, h4⟩ := hsp
      have hpB := (pkgs_ownsC hoB rfl (by have := HLEN.out; omega)).keep (Z' := zAll) ⟨fun _ _ _ => trivial, Nat.le_refl _, fun _ _ _ h => h⟩
      obtain ⟨w9, hw9, hbw, hx5, y1, y2⟩ := any_block v9 #[.string sB, .int .i64 t1, .int .i64 t2, .int .i64 t3, .slice aB nB kB] 39
      obtain ⟨b9, hb9⟩ : ∃ b, v9.heap.size = b := ⟨_, rfl⟩
      rw [hb9] at hx5
      have h45 := h4.trans (hbw.mono h4.size)
      clear u0 u1 u2 u3 u4 u5 u6 u7 s0 s1
      have HM9 := Lib.hid (HM8.out.below h45)
      have HPO9 := Lib.hid (HPO8.out.below h45)
      have G19 := Lib.hid ((h45.block _ (lt_of_heap G18.out)).trans G18.out); have G49 := Lib.hid ((h45.block _ (lt_of_heap G48.out)).trans G48.out); have HC9 := Lib.hid (HC8.out.trans (h45.mono HC8.out.size)); have HB9 := Lib.hid (HB8.out.trans (h45.mono HB8.out.size))
      have RB9 := Lib.hid hx5; have HPB9 := Lib.hid (hpB.below hbw); have HSB := Lib.hid hsB; have HOB9 := Lib.hid (ownsC_below hoB hbw); have HNB := Lib.hid hnB
      clear hpB hoB hsB hnB h4 hbw hx5 h45 y1 y2
      have u0 := cell_of_heap G19.out 0
      have u1 := cell_of_heap G19.out 1
      have u2 := cell_of_heap G19.out 2
      have u3 := cell_of_heap G19.out 3
      have u4 := cell_of_heap G19.out 4
      have u5 := cell_of_heap G19.out 5
      have u6 := cell_of_heap G19.out 6
      have u7 := cell_of_heap G19.out 7
      have s0 := cell_of_heap G49.out 0
      have s1 := cell_of_heap G49.out 1
      have rb0 := cell_of_heap RB9.out 0
      have rb1 := cell_of_heap RB9.out 1
      have rb2 := cell_of_heap RB9.out 2
      have rb3 := cell_of_heap RB9.out 3
      have rb4 := cell_of_heap RB9.out 4
      go_wp2_with fail
      refine (HR.out _ HC9.out).mono ?_
      intro e v10 hsp
      obtain ⟨sC, aC, nC, kC, hnC, hsC, rfl, hoC, h4⟩ := hsp
      have hpC := hoC
      obtain ⟨w10, hw10, hbw, hx5, y1, y2⟩ := any_block v10 #[.string sC, .int .i64 t1, .int .i64 t2, .int .i64 t3, .slice aC nC kC] 39
      obtain ⟨b10, hb10⟩ : ∃ b, v10.heap.size = b := ⟨_, rfl⟩
      rw [hb10] at hx5
      have h45 := h4.trans (hbw.mono h4.size)
      clear u0 u1 u2 u3 u4 u5 u6 u7 s0 s1 rb0 rb1 rb2 rb3 rb4
      have HM10 := Lib.hid (HM9.out.below h45)
      have HPO10 := Lib.hid (HPO9.out.below h45)
      have HPB10 := Lib.hid (HPB9.out.below h45)
      have HOB10 := Lib.hid (ownsC_below HOB9.out h45)
      have G110 := Lib.hid ((h45.block _ (lt_of_heap G19.out)).trans G19.out); have G410 := Lib.hid ((h45.block _ (lt_of_heap G49.out)).trans G49.out); have RB10 := Lib.hid ((h45.block _ (lt_of_heap RB9.out)).trans RB9.out); have HC10 := Lib.hid (HC9.out.trans (h45.mono HC9.out.size)); have HB10 := Lib.hid (HB9.out.trans (h45.mono HB9.out.size))
      have RC10 := Lib.hid hx5; have HPC10 := Lib.hid (hpC.below hbw); have HSC := Lib.hid hsC; have HOC10 := Lib.hid (hoC.below hbw); have HNC := Lib.hid hnC
      clear hpC hoC hsC hnC h4 hbw hx5 h45 y1 y2
      have u0 := cell_of_heap G110.out 0
      have u1 := cell_of_heap G110.out 1
      have u2 := cell_of_heap G110.out 2
      have u3 := cell_of_heap G110.out 3
      have u4 := cell_of_heap G110.out 4
      have u5 := cell_of_heap G110.out 5
      have u6 := cell_of_heap G110.out 6
      have u7 := cell_of_heap G110.out 7
      have s0 := cell_of_heap G410.out 0
      have s1 := cell_of_heap G410.out 1
      have rb0 := cell_of_heap RB10.out 0
      have rb1 := cell_of_heap RB10.out 1
      have rb2 := cell_of_heap RB10.out 2
      have rb3 := cell_of_heap RB10.out 3
      have rb4 := cell_of_heap RB10.out 4
      have rc0 := cell_of_heap RC10.out 0
      have rc1 := cell_of_heap RC10.out 1
      have rc2 := cell_of_heap RC10.out 2
      have rc3 := cell_of_heap RC10.out 3
      have rc4 := cell_of_heap RC10.out 4
      obtain rfl : sC = sB := by
        have h1 := HSC.out
        rw [HSB.out] at h1
        injection h1 with h1
        exact h1.symm
      have hsm := rsameC_any w10 (t, c) (t, c) zAll (.slice aB nB kB) (HPB10.out) zAll (.slice aC nC kC) (HPC10.out)
      dsimp only at hsm
      rw [HSB.out, HTN.out.1, HTN.out.2.1, HTN.out.2.2, decide_eq_true rfl] at hsm
      have HSM := Lib.hid hsm
      clear hsm
      have he : ((e0 : Int) == e0) = true := by simp
      go_wp2_with fail
      refine HSM.out.mono ?_
      rintro e w11 ⟨rfl, h11⟩
      have HBE := Lib.hid (HB10.out.trans (h11.mono HB10.out.size))
      clear h11
      go_wp2_with fail
      go_ret
      exact ⟨by simp, HBE.out⟩
end Go.Proofs.YtnbeklmjinnbaaaGreat
