/- DERIVED. Solve answers what the document says, walked. (Printed by a program.) -/
import Derived.Test.YtnbeklmjinnbaaaGreatSolLw
namespace Go.Proofs.YtnbeklmjinnbaaaGreat
open Go.RowKit Go.Shelf
set_option linter.unusedVariables false
set_option linter.unusedSimpArgs false
set_option maxRecDepth 100000

set_option maxHeartbeats 32000000 in
theorem answers_any (w : World) (cs : List Value) (x : Cs) (hx : CaseAt w cs x) :
    Calls Tryz.prog 3 #[.agg cs.toArray] w (fun e w' => e = .returned (.bool true) ∧ Below w.heap.size w w') := by
  have hbg := fun W (hW : Below w.heap.size w W) => begun_any W cs x (hx.below hW)
  obtain ⟨v0, v1, v2, rfl, hsc, hpl, hle, hmo, hmn, hlw⟩ := hx
  obtain ⟨a0, c0, rfl, -⟩ := hsc
  obtain ⟨a5, c5, rfl, -⟩ := hle
  obtain ⟨a6, c6, rfl, -⟩ := hmo
  replace hbg : ∀ W, Below w.heap.size w W → Calls _ _ #[.agg #[.slice a0 x.script.length c0, strV x.p.1, .int .i64 x.p.2.1, .int .i64 x.p.2.2.1, .int .i64 x.p.2.2.2, .slice a5 x.less.length c5, .slice a6 x.more.length c6, .int .i64 x.left]] W _ := hbg
  show Calls _ _ #[.agg #[.slice a0 x.script.length c0, strV x.p.1, .int .i64 x.p.2.1, .int .i64 x.p.2.2.1, .int .i64 x.p.2.2.2, .slice a5 x.less.length c5, .slice a6 x.more.length c6, .int .i64 x.left]] _ _
  obtain ⟨T, -, hT, -, -⟩ := strV_is x.p.1
  rw [hT] at hbg ⊢
  obtain ⟨n0, hn0⟩ : ∃ y, y = x.script.length := ⟨_, rfl⟩
  obtain ⟨n5, hn5⟩ : ∃ y, y = x.less.length := ⟨_, rfl⟩
  obtain ⟨n6, hn6⟩ : ∃ y, y = x.more.length := ⟨_, rfl⟩
  obtain ⟨p1, hp1⟩ : ∃ y, y = x.p.2.1 := ⟨_, rfl⟩
  obtain ⟨p2, hp2⟩ : ∃ y, y = x.p.2.2.1 := ⟨_, rfl⟩
  obtain ⟨p3, hp3⟩ : ∃ y, y = x.p.2.2.2 := ⟨_, rfl⟩
  obtain ⟨lf, hlf⟩ : ∃ y, y = x.left := ⟨_, rfl⟩
  rw [← hn0, ← hn5, ← hn6, ← hp1, ← hp2, ← hp3, ← hlf] at hbg ⊢
  obtain ⟨w0, hw0, hb0, hx0, y1, y2⟩ := any_block w #[.slice a0 n0 c0, .string T, .int .i64 p1, .int .i64 p2, .int .i64 p3, .slice a5 n5 c5, .slice a6 n6 c6, .int .i64 lf] 30
  have HBG := Lib.hid hbg; have HB0 := Lib.hid hb0; have G10 := Lib.hid hx0; have HT := Lib.hid (And.intro hT (And.intro hp1 (And.intro hp2 hp3)))
  clear hbg hb0 hx0 hT hn0 hn5 hn6 hp1 hp2 hp3 hlf hpl hmn hlw y1 y2
  go_enter Tryz.func3, Tryz.ntmps3
  go_wp2_with fail
  refine (alive_any _).mono ?_
  rintro e w1 ⟨rfl, h1⟩
  have G11 := Lib.hid ((h1.block _ (lt_of_heap G10.out)).trans G10.out)
  have HB1 := Lib.hid (HB0.out.trans (h1.mono HB0.out.size))
  clear h1
  have u0 := cell_of_heap G11.out 0
  have u1 := cell_of_heap G11.out 1
  have u2 := cell_of_heap G11.out 2
  have u3 := cell_of_heap G11.out 3
  have u4 := cell_of_heap G11.out 4
  have u5 := cell_of_heap G11.out 5
  have u6 := cell_of_heap G11.out 6
  have u7 := cell_of_heap G11.out 7
  go_wp2_with fail
  refine (HBG.out _ HB1.out).mono ?_
  rintro e w2 ⟨h2, B, a1, n1, c1, a2, n2, c2, ap, np, cp, ok, rfl, hok⟩
  obtain ⟨w3, hw3, hb3, hx3, y1, y2⟩ := any_block w2 #[.slice a1 n1 c1, .slice a2 n2 c2] 35
  obtain ⟨b4, hb4⟩ : ∃ b, w2.heap.size = b := ⟨_, rfl⟩
  rw [hb4] at hx3
  have h23 := h2.trans (hb3.mono h2.size)
  have G13 := Lib.hid ((h23.block _ (lt_of_heap G11.out)).trans G11.out)
  have G43 := Lib.hid hx3; have HB3 := Lib.hid (HB1.out.trans (h23.mono HB1.out.size)); have H23 := Lib.hid hb3; have HOK := Lib.hid hok
  clear h2 hb3 hx3 h23 hok y1 y2 u0 u1 u2 u3 u4 u5 u6 u7
  have u0 := cell_of_heap G13.out 0
  have u1 := cell_of_heap G13.out 1
  have u2 := cell_of_heap G13.out 2
  have u3 := cell_of_heap G13.out 3
  have u4 := cell_of_heap G13.out 4
  have u5 := cell_of_heap G13.out 5
  have u6 := cell_of_heap G13.out 6
  have u7 := cell_of_heap G13.out 7
  have s0 := cell_of_heap G43.out 0
  have s1 := cell_of_heap G43.out 1
  cases ok
  · go_wp2_with fail
    go_ret
    exact ⟨rfl, HB3.out⟩
  by_cases hl : 400 < lf
  · go_wp2_with fail
    go_ret
    exact ⟨rfl, HB3.out⟩
  obtain ⟨st, pool, htwo, hrow, hpl⟩ := HOK.out rfl
  have hP := (hrow.below H23.out).all (by omega)
  have TWO := Lib.hid (htwo.below H23.out); have HPOOL := Lib.hid hP; have HROW := Lib.hid (hrow.below H23.out); have HPL := Lib.hid hpl
  clear htwo hrow hP hpl
  have hs := fun W (hW : Below w3.heap.size w3 W) => (TWO.out.below hW).solve (HPOOL.out.below hW) x.p lf (by omega)
  have hr := fun W (hW : Below w3.heap.size w3 W) => (TWO.out.below hW).rsolve (HPOOL.out.below hW) x.p lf (by omega)
  rw [HT.out.1, ← HT.out.2.1, ← HT.out.2.2.1, ← HT.out.2.2.2] at hs hr
  have hlen := solveT_len (st := st) (p := x.p) (pool := pool) (show lf ≤ 2000 by omega)
  obtain ⟨res, hres⟩ : ∃ r, r = solveT st x.p pool lf := ⟨_, rfl⟩
  rw [← hres] at hs hr hlen
  obtain ⟨⟨t, c⟩, m, e0⟩ := res
  obtain ⟨t1, ht1⟩ : ∃ y, t.2.1 = y := ⟨_, rfl⟩
  obtain ⟨t2, ht2⟩ : ∃ y, t.2.2.1 = y := ⟨_, rfl⟩
  obtain ⟨t3, ht3⟩ : ∃ y, t.2.2.2 = y := ⟨_, rfl⟩
  have Hsn : ∀ W, Below w3.heap.size w3 W → Calls _ _ _ W (fun e w' => ∃ (s : ByteArray) (a : Option Addr) (n k : Nat), n = c.length ∧ strV t.1 = .string s ∧ e = .returned (.tuple #[.agg #[.string s, .int .i64 t1, .int .i64 t2, .int .i64 t3, .slice a n k], .int .i64 m, .int .i64 e0]) ∧ ownsC w' W.heap.size 26 4 (.slice a n k) c.length (c.flatMap pkL) ∧ Below W.heap.size W w') := fun W hW => (hs W hW).mono (fun e w' h => by obtain ⟨s, a, n, k, h1, h2, h3, h4, h5⟩ := h.shape; rw [ht1, ht2, ht3] at h3; exact ⟨s, a, n, k, h1, h2, h3, h4, h5⟩)
  have Hrn : ∀ W, Below w3.heap.size w3 W → Calls _ _ _ W (fun e w' => ∃ (s : ByteArray) (a : Option Addr) (n k : Nat), n = c.length ∧ strV t.1 = .string s ∧ e = .returned (.tuple #[.agg #[.string s, .int .i64 t1, .int .i64 t2, .int .i64 t3, .slice a n k], .int .i64 m, .int .i64 e0]) ∧ PkgsAt zAll w' (.slice a n k) c ∧ Below W.heap.size W w') := fun W hW => (hr W hW).mono (fun e w' h => by obtain ⟨s, a, n, k, h1, h2, h3, h4, h5⟩ := h.shape; rw [ht1, ht2, ht3] at h3; exact ⟨s, a, n, k, h1, h2, h3, h4, h5⟩)
  have hnil := fun (W : World) (_ : Below w3.heap.size w3 W) => solve_nil W x.p (.slice ap np cp) lf
  rw [HT.out.1, ← HT.out.2.1, ← HT.out.2.2.1, ← HT.out.2.2.2] at hnil
  have Hnl : ∀ W, Below w3.heap.size w3 W → Calls _ _ _ W (fun e w' => ∃ (s : ByteArray) (a : Option Addr) (n k : Nat), e = .returned (.tuple #[.agg #[.string s, .int .i64 0, .int .i64 0, .int .i64 0, .slice a n k], .int .i64 0, .int .i64 2]) ∧ Below W.heap.size W w') := fun W hW => (hnil W hW).mono (fun e w' h => by obtain ⟨s, a, n, k, -, -, h3, -, h5⟩ := h.shape; exact ⟨s, a, n, k, h3, h5⟩)
  have HS := Lib.hid Hsn; have HR := Lib.hid Hrn; have HNIL := Lib.hid Hnl; have HLEN := Lib.hid (show c.length ≤ 2000 from hlen); have HTN := Lib.hid (And.intro ht1 (And.intro ht2 ht3))
  clear hs hr Hsn Hrn hnil Hnl hlen hres ht1 ht2 ht3
  have HC3 := Lib.hid (Below.refl w3.heap.size w3)
  go_wp2_with fail
  refine (HS.out _ HC3.out).mono ?_
  intro e v5 hsp
  obtain ⟨sA, aA, nA, kA, hnA, hsA, rfl, hoA, h4⟩ := hsp
  have hpA := (pkgs_ownsC hoA rfl (by have := HLEN.out; omega)).keep (Z' := zAll) ⟨fun _ _ _ => trivial, Nat.le_refl _, fun _ _ _ h => h⟩
  obtain ⟨w5, hw5, hbw, hx5, y1, y2⟩ := any_block v5 #[.string sA, .int .i64 t1, .int .i64 t2, .int .i64 t3, .slice aA nA kA] 39
  obtain ⟨b5, hb5⟩ : ∃ b, v5.heap.size = b := ⟨_, rfl⟩
  rw [hb5] at hx5
  have h45 := h4.trans (hbw.mono h4.size)
  clear u0 u1 u2 u3 u4 u5 u6 u7 s0 s1
  have G15 := Lib.hid ((h45.block _ (lt_of_heap G13.out)).trans G13.out); have G45 := Lib.hid ((h45.block _ (lt_of_heap G43.out)).trans G43.out); have HC5 := Lib.hid (HC3.out.trans (h45.mono HC3.out.size)); have HB5 := Lib.hid (HB3.out.trans (h45.mono HB3.out.size))
  have RA5 := Lib.hid hx5; have HPA5 := Lib.hid (hpA.below hbw); have HSA := Lib.hid hsA; have HOA := Lib.hid hoA; have HNA := Lib.hid hnA
  clear hpA hoA hsA hnA h4 hbw hx5 h45 y1 y2
  have u0 := cell_of_heap G15.out 0
  have u1 := cell_of_heap G15.out 1
  have u2 := cell_of_heap G15.out 2
  have u3 := cell_of_heap G15.out 3
  have u4 := cell_of_heap G15.out 4
  have u5 := cell_of_heap G15.out 5
  have u6 := cell_of_heap G15.out 6
  have u7 := cell_of_heap G15.out 7
  have s0 := cell_of_heap G45.out 0
  have s1 := cell_of_heap G45.out 1
  have ra0 := cell_of_heap RA5.out 0
  have ra1 := cell_of_heap RA5.out 1
  have ra2 := cell_of_heap RA5.out 2
  have ra3 := cell_of_heap RA5.out 3
  have ra4 := cell_of_heap RA5.out 4
  go_wp2_with fail
  refine (HR.out _ HC5.out).mono ?_
  intro e v7 hsp
  obtain ⟨sB, aB, nB, kB, hnB, hsB, rfl, hoB, h4⟩ := hsp
  have hpB := hoB
  obtain ⟨w7, hw7, hbw, hx5, y1, y2⟩ := any_block v7 #[.string sB, .int .i64 t1, .int .i64 t2, .int .i64 t3, .slice aB nB kB] 39
  obtain ⟨b7, hb7⟩ : ∃ b, v7.heap.size = b := ⟨_, rfl⟩
  rw [hb7] at hx5
  have h45 := h4.trans (hbw.mono h4.size)
  clear u0 u1 u2 u3 u4 u5 u6 u7 s0 s1 ra0 ra1 ra2 ra3 ra4
  have HPA7 := Lib.hid (HPA5.out.below h45)
  have G17 := Lib.hid ((h45.block _ (lt_of_heap G15.out)).trans G15.out); have G47 := Lib.hid ((h45.block _ (lt_of_heap G45.out)).trans G45.out); have RA7 := Lib.hid ((h45.block _ (lt_of_heap RA5.out)).trans RA5.out); have HC7 := Lib.hid (HC5.out.trans (h45.mono HC5.out.size)); have HB7 := Lib.hid (HB5.out.trans (h45.mono HB5.out.size))
  have RB7 := Lib.hid hx5; have HPB7 := Lib.hid (hpB.below hbw); have HSB := Lib.hid hsB; have HOB := Lib.hid hoB; have HNB := Lib.hid hnB
  clear hpB hoB hsB hnB h4 hbw hx5 h45 y1 y2
  have u0 := cell_of_heap G17.out 0
  have u1 := cell_of_heap G17.out 1
  have u2 := cell_of_heap G17.out 2
  have u3 := cell_of_heap G17.out 3
  have u4 := cell_of_heap G17.out 4
  have u5 := cell_of_heap G17.out 5
  have u6 := cell_of_heap G17.out 6
  have u7 := cell_of_heap G17.out 7
  have s0 := cell_of_heap G47.out 0
  have s1 := cell_of_heap G47.out 1
  have ra0 := cell_of_heap RA7.out 0
  have ra1 := cell_of_heap RA7.out 1
  have ra2 := cell_of_heap RA7.out 2
  have ra3 := cell_of_heap RA7.out 3
  have ra4 := cell_of_heap RA7.out 4
  have rb0 := cell_of_heap RB7.out 0
  have rb1 := cell_of_heap RB7.out 1
  have rb2 := cell_of_heap RB7.out 2
  have rb3 := cell_of_heap RB7.out 3
  have rb4 := cell_of_heap RB7.out 4
  go_wp2_with fail
  refine (HNIL.out _ HC7.out).mono ?_
  intro e v9 hsp
  obtain ⟨sN, aN, nN, kN, rfl, h4⟩ := hsp
  obtain ⟨w9, hw9, hbw, hx5, y1, y2⟩ := any_block v9 #[.string sN, .int .i64 0, .int .i64 0, .int .i64 0, .slice aN nN kN] 39
  obtain ⟨b9, hb9⟩ : ∃ b, v9.heap.size = b := ⟨_, rfl⟩
  rw [hb9] at hx5
  have h45 := h4.trans (hbw.mono h4.size)
  clear u0 u1 u2 u3 u4 u5 u6 u7 s0 s1 ra0 ra1 ra2 ra3 ra4 rb0 rb1 rb2 rb3 rb4
  have HPA9 := Lib.hid (HPA7.out.below h45)
  have HPB9 := Lib.hid (HPB7.out.below h45)
  have G19 := Lib.hid ((h45.block _ (lt_of_heap G17.out)).trans G17.out); have G49 := Lib.hid ((h45.block _ (lt_of_heap G47.out)).trans G47.out); have RA9 := Lib.hid ((h45.block _ (lt_of_heap RA7.out)).trans RA7.out); have RB9 := Lib.hid ((h45.block _ (lt_of_heap RB7.out)).trans RB7.out); have HC9 := Lib.hid (HC7.out.trans (h45.mono HC7.out.size)); have HB9 := Lib.hid (HB7.out.trans (h45.mono HB7.out.size))
  clear h4 hbw hx5 h45 y1 y2
  have u0 := cell_of_heap G19.out 0
  have u1 := cell_of_heap G19.out 1
  have u2 := cell_of_heap G19.out 2
  have u3 := cell_of_heap G19.out 3
  have u4 := cell_of_heap G19.out 4
  have u5 := cell_of_heap G19.out 5
  have u6 := cell_of_heap G19.out 6
  have u7 := cell_of_heap G19.out 7
  have s0 := cell_of_heap G49.out 0
  have s1 := cell_of_heap G49.out 1
  have ra0 := cell_of_heap RA9.out 0
  have ra1 := cell_of_heap RA9.out 1
  have ra2 := cell_of_heap RA9.out 2
  have ra3 := cell_of_heap RA9.out 3
  have ra4 := cell_of_heap RA9.out 4
  have rb0 := cell_of_heap RB9.out 0
  have rb1 := cell_of_heap RB9.out 1
  have rb2 := cell_of_heap RB9.out 2
  have rb3 := cell_of_heap RB9.out 3
  have rb4 := cell_of_heap RB9.out 4
  obtain rfl : sB = sA := by
    have h1 := HSB.out
    rw [HSA.out] at h1
    injection h1 with h1
    exact h1.symm
  have hsm := rsameC_any w9 (t, c) (t, c) zAll (.slice aA nA kA) (HPA9.out) zAll (.slice aB nB kB) (HPB9.out)
  dsimp only at hsm
  rw [HSA.out, HTN.out.1, HTN.out.2.1, HTN.out.2.2, decide_eq_true rfl] at hsm
  have HSM := Lib.hid hsm
  clear hsm
  go_wp2_with fail
  refine HSM.out.mono ?_
  rintro e w10 ⟨rfl, h10⟩
  have hm : ((m : Int) == m) = true := by simp
  have he : ((e0 : Int) == e0) = true := by simp
  have hHB := HB9.out.trans (h10.mono HB9.out.size)
  have HBE := Lib.hid hHB
  clear hHB h10
  go_wp2_with fail
  go_ret
  exact ⟨by simp, HBE.out⟩
end Go.Proofs.YtnbeklmjinnbaaaGreat
