/- DERIVED. The reference's Holds, walked. (Printed by a program.) -/
import Derived.Test.YtaagkndhgicifaaGreatRMet
namespace Go.Proofs.YtaagkndhgicifaaGreat
set_option maxHeartbeats 32000000
open Go.RowKit Go.Shelf
set_option linter.unusedVariables false
set_option linter.unusedSimpArgs false
set_option maxRecDepth 100000
theorem one_next {ps : List Pk} {k : Nat} {q : Pk} (h : ps[k]? = some q) (h1 : oneB (ps.take k) = true) (h2 : (ps.take k).all (fun y => decide (y.1 ≠ q.1)) = true) : oneB (ps.take (k + 1)) = true := by
 unfold oneB at h1 ⊢
 rw [decide_eq_true_eq] at h1 ⊢
 rw [List.take_add_one, h, List.map_append, List.nodup_append]
 refine ⟨h1, by simp, fun a ha b hb => ?_⟩
 obtain ⟨y, hy, rfl⟩ := List.mem_map.1 ha
 obtain rfl : b = q.1 := by simpa using hb
 have := List.all_eq_true.1 h2 y hy
 simpa using this
theorem one_no {ps : List Pk} {k j : Nat} {q y : Pk} (h : ps[k]? = some q) (hj : ps[j]? = some y) (hlt : j < k) (he : y.1 = q.1) : oneB ps = false := by
 unfold oneB
 rw [decide_eq_false_iff_not]
 intro hn
 have hl := (gEs.1 hj).1
 have e : (ps.map Prod.fst)[j]? = (ps.map Prod.fst)[k]? := by rw [List.getElem?_map, List.getElem?_map, h, hj]; simp [he]
 have := (List.getElem?_inj (by simpa using hl) hn).1 e
 omega
def eachB (st : St) (pool : List Pk) (c : List Pk) (q : Pk) : Bool := inP pool q && st.has q && metB (st.runs q) c
theorem rholds_any (w : World) (v : Value) (st : St) (h : RefAt zAll w v st) (p : Pk) (vp : Value) (pool : List Pk) (hp : PkgsAt zAll w vp pool) (t : Pk) (c : List Pk) (vc : Value) (hc : PkgsAt zAll w vc c) (hcl : c.length ≤ 100000) :
  Calls Tryz.prog 19 #[v, .agg #[strV p.1, .int .i64 p.2.1, .int .i64 p.2.2.1, .int .i64 p.2.2.2], vp, .agg #[strV t.1, .int .i64 t.2.1, .int .i64 t.2.2.1, .int .i64 t.2.2.2, vc]] w (fun e w' => e = .returned (.bool (holdsB st p pool (t, c))) ∧ Below w.heap.size w w') := by
 have hrc := fun W (hW : Below w.heap.size w W) q => rrec_any W zAll v st (h.below hW) q
 have hhs := fun W (hW : Below w.heap.size w W) q => rhas2_any W zAll v st (h.below hW) q
 have hin := fun W (hW : Below w.heap.size w W) q => rin2_any W zAll vp pool (hp.below hW) q
 have hmt := fun W (hW : Below w.heap.size w W) vd ds (hd : DepsAt zAll W vd ds) => rmet_any W zAll vd ds hd zAll vc c (hc.below hW)
 obtain ⟨a1, c1, a2, c2, rfl, -, -⟩ := h.form
 obtain ⟨ap, cp, rfl, -⟩ := hp
 have hc0 := hc
 obtain ⟨aC, cC, rfl, -⟩ := hc0
 obtain ⟨T, -, hT, -, -⟩ := strV_is p.1
 obtain ⟨V, -, hV, -, -⟩ := strV_is t.1
 have hrp := fun W hW => hrc W hW p
 rw [hT] at hrp ⊢
 have hwt := fun W (hW : Below w.heap.size w W) v0 v1 d (hd : DepAt zAll W v0 v1 d) => rwill_any W zAll v0 v1 d hd t
 have hit := fun W hW => hin W hW t
 have hht := fun W hW => hhs W hW t
 rw [hV] at hwt hit hht ⊢
 obtain ⟨n1, hn1⟩ : ∃ y, y = st.seeds.length := ⟨_, rfl⟩
 obtain ⟨n2, hn2⟩ : ∃ y, y = st.recs.length := ⟨_, rfl⟩
 obtain ⟨np, hnp⟩ : ∃ y, y = pool.length := ⟨_, rfl⟩
 obtain ⟨nC, hnC⟩ : ∃ y, y = c.length := ⟨_, rfl⟩
 obtain ⟨p1, hp1⟩ : ∃ y, y = p.2.1 := ⟨_, rfl⟩
 obtain ⟨p2, hp2⟩ : ∃ y, y = p.2.2.1 := ⟨_, rfl⟩
 obtain ⟨p3, hp3⟩ : ∃ y, y = p.2.2.2 := ⟨_, rfl⟩
 obtain ⟨t1, ht1⟩ : ∃ y, y = t.2.1 := ⟨_, rfl⟩
 obtain ⟨t2, ht2⟩ : ∃ y, y = t.2.2.1 := ⟨_, rfl⟩
 obtain ⟨t3, ht3⟩ : ∃ y, y = t.2.2.2 := ⟨_, rfl⟩
 simp only [← hn1, ← hn2, ← hnp, ← hnC, ← hp1, ← hp2, ← hp3, ← ht1, ← ht2, ← ht3] at hrc hhs hin hmt hrp hwt hit hht hc hcl ⊢
 obtain ⟨R, hR⟩ : ∃ R, R = holdsB st p pool (t, c) := ⟨_, rfl⟩
 rw [← hR]
 unfold holdsB at hR
 dsimp only at hR
 obtain ⟨w0, hw0, hb0, hx0, y1, y2⟩ := aBk w #[.slice a1 n1 c1, .slice a2 n2 c2] 28
 obtain ⟨w1, hw1, hb1, hx1, y3, y4⟩ := aBk w0 #[.string T, .int .i64 p1, .int .i64 p2, .int .i64 p3] 41
 obtain ⟨w2, hw2, hb2, hx2, y5, y6⟩ := aBk w1 #[.string V, .int .i64 t1, .int .i64 t2, .int .i64 t3, .slice aC nC cC] 43
 obtain ⟨b1, hb1e⟩ : ∃ b, w0.heap.size = b := ⟨_, rfl⟩
 obtain ⟨b2, hb2e⟩ : ∃ b, w1.heap.size = b := ⟨_, rfl⟩
 have hb12 := hb1.trans (hb2.mono hb1.size)
 have g0 := (hb12.block _ (by omega)).trans hx0
 have g1 := (hb2.block _ (by omega)).trans hx1
 rw [hb1e] at g1
 rw [hb2e] at hx2
 have HB2 := hdL (hb0.trans (hb12.mono hb0.size)); have G02 := hdL g0; have G12 := hdL g1; have G22 := hdL hx2; have HRC := hdL hrc; have HHS := hdL hhs; have HIN := hdL hin; have HMT := hdL hmt; have HRP := hdL hrp; have HWT := hdL hwt; have HIT := hdL hit; have HHT := hdL hht; have HCC := hdL hc; have HRES := hdL hR; have HNC := hdL hnC
 clear hrc hhs hin hmt hrp hwt hit hht h hc hT hV hn1 hn2 hnp hnC hp1 hp2 hp3 ht1 ht2 ht3 hR hb0 hb1 hb2 hb12 g0 g1 hx0 hx1 hx2 y1 y2 y3 y4 y5 y6
 obtain ⟨s0, s1⟩ := cells2 G02.out
 obtain ⟨e0, e1, e2, e3⟩ := cells4 G12.out
 obtain ⟨z0, z1, z2, z3, z4⟩ := cells5 G22.out
 go_enter Tryz.func19, Tryz.ntmps19
 go_wp2_with fail
 refine (HRP.out _ HB2.out).mono ?_
 intro e w3 hrq
 obtain ⟨rs, rx, ry, rz, rt, ra1, rn1, rc1, ra2, rn2, rc2, ra3, rn3, rc3, rb, rfl, hrb, h3, hat⟩ := hrq.shape
 obtain ⟨w4, hw4, hb4, hx4, y1, y2⟩ := aBk w3 #[.string rs, .int .i64 rx, .int .i64 ry, .int .i64 rz, .string rt, .slice ra1 rn1 rc1, .slice ra2 rn2 rc2, .slice ra3 rn3 rc3] 62
 obtain ⟨b4, hb4e⟩ : ∃ b, w3.heap.size = b := ⟨_, rfl⟩
 rw [hb4e] at hx4
 have h34 := h3.trans (hb4.mono h3.size)
 have G04 := hdL ((h34.block _ (loh G02.out)).trans G02.out); have G14 := hdL ((h34.block _ (loh G12.out)).trans G12.out); have G24 := hdL ((h34.block _ (loh G22.out)).trans G22.out)
 have G44 := hdL hx4; have HB4 := hdL (HB2.out.trans (h34.mono HB2.out.size)); have HAT := hdL (fun r hr => (hat r hr).below hb4)
 clear hrq h3 hb4 hx4 h34 hat y1 y2 s0 s1 e0 e1 e2 e3 z0 z1 z2 z3 z4
 obtain ⟨s0, s1⟩ := cells2 G04.out
 obtain ⟨z0, z1, z2, z3, z4⟩ := cells5 G24.out
 obtain ⟨q0, q1, q2, q3, q4, q5, q6, q7⟩ := cells8 G44.out
 rcases hq : st.rec? p with _ | r
 ·rw [hq] at hrb
  subst hrb
  have HQ := hdL hq
  clear hq
  go_wp2_with fail
  go_ret
  have hres := HRES.out
  rw [HQ.out] at hres
  exact ⟨by first | (rw [hres]; rfl) | rw [hres], HB4.out⟩
 ·rw [hq] at hrb
  subst hrb
  have hat := HAT.out r hq
  obtain ⟨t0, t1', bd, rn, ee, -, hdt, hdb, -⟩ := hat
  simp only [List.cons.injEq, and_true] at ee
  obtain ⟨-, -, -, -, rfl, rfl, rfl, rfl⟩ := ee
  have hres := HRES.out
  rw [hq] at hres
  dsimp only at hres
  have HR2 := hdL hres; have HDT := hdL hdt; have HDB := hdL hdb
  clear hres hdt hdb hq
  obtain ⟨k1, hk1⟩ : ∃ b, b = willB r.tool t := ⟨_, rfl⟩
  obtain ⟨k2, hk2⟩ : ∃ b, b = inP pool t := ⟨_, rfl⟩
  obtain ⟨k3, hk3⟩ : ∃ b, b = st.has t := ⟨_, rfl⟩
  obtain ⟨k4, hk4⟩ : ∃ b, b = metB r.build c := ⟨_, rfl⟩
  have hwt := HWT.out w4 HB4.out _ _ _ HDT.out
  rw [← hk1] at hwt
  have hit := fun W hW => HIT.out W hW
  rw [← hk2] at hit
  have hht := fun W hW => HHT.out W hW
  rw [← hk3] at hht
  have hmt := fun W (hW : Below w4.heap.size w4 W) => HMT.out W (HB4.out.trans (hW.mono HB4.out.size)) _ _ (HDB.out.below hW)
  rw [← hk4] at hmt
  have HW1 := hdL hwt; have HI1 := hdL hit; have HH1 := hdL hht; have HM1 := hdL hmt; have HK := hdL (And.intro hk1 (And.intro hk2 (And.intro hk3 hk4)))
  clear hwt hit hht hmt hk1 hk2 hk3 hk4
  go_wp2_with fail
  refine HW1.out.mono ?_
  rintro e w5 ⟨rfl, h5⟩
  have G05 := hdL ((h5.block _ (loh G04.out)).trans G04.out); have G15 := hdL ((h5.block _ (loh G14.out)).trans G14.out); have G25 := hdL ((h5.block _ (loh G24.out)).trans G24.out); have G45 := hdL ((h5.block _ (loh G44.out)).trans G44.out)
  have HB5 := hdL (HB4.out.trans (h5.mono HB4.out.size)); have HC5 := hdL h5
  clear h5 s0 s1 z0 z1 z2 z3 z4 q0 q1 q2 q3 q4 q5 q6 q7
  obtain ⟨s0, s1⟩ := cells2 G05.out
  obtain ⟨z0, z1, z2, z3, z4⟩ := cells5 G25.out
  obtain ⟨q0, q1, q2, q3, q4, q5, q6, q7⟩ := cells8 G45.out
  cases k1
  ·go_wp2_with fail
   go_ret
   have hres := HR2.out
   rw [← HK.out.1] at hres
   exact ⟨by rw [hres]; first | rfl | simp, HB5.out⟩
  ·go_wp2_with fail
   refine (HI1.out w5 HB5.out).mono ?_
   rintro e w6 ⟨rfl, h6⟩
   have G06 := hdL ((h6.block _ (loh G05.out)).trans G05.out); have G16 := hdL ((h6.block _ (loh G15.out)).trans G15.out); have G26 := hdL ((h6.block _ (loh G25.out)).trans G25.out); have G46 := hdL ((h6.block _ (loh G45.out)).trans G45.out)
   have HB6 := hdL (HB5.out.trans (h6.mono HB5.out.size)); have HC6 := hdL (HC5.out.trans (h6.mono HC5.out.size))
   clear h6 s0 s1 z0 z1 z2 z3 z4 q0 q1 q2 q3 q4 q5 q6 q7
   obtain ⟨s0, s1⟩ := cells2 G06.out
   obtain ⟨z0, z1, z2, z3, z4⟩ := cells5 G26.out
   obtain ⟨q0, q1, q2, q3, q4, q5, q6, q7⟩ := cells8 G46.out
   cases k2
   ·go_wp2_with fail
    go_ret
    have hres := HR2.out
    rw [← HK.out.2.1] at hres
    exact ⟨by rw [hres]; first | rfl | simp, HB6.out⟩
   ·go_wp2_with fail
    refine (HH1.out w6 HB6.out).mono ?_
    rintro e w7 ⟨rfl, h7⟩
    have G07 := hdL ((h7.block _ (loh G06.out)).trans G06.out); have G17 := hdL ((h7.block _ (loh G16.out)).trans G16.out); have G27 := hdL ((h7.block _ (loh G26.out)).trans G26.out); have G47 := hdL ((h7.block _ (loh G46.out)).trans G46.out)
    have HB7 := hdL (HB6.out.trans (h7.mono HB6.out.size)); have HC7 := hdL (HC6.out.trans (h7.mono HC6.out.size))
    clear h7 s0 s1 z0 z1 z2 z3 z4 q0 q1 q2 q3 q4 q5 q6 q7
    obtain ⟨s0, s1⟩ := cells2 G07.out
    obtain ⟨z0, z1, z2, z3, z4⟩ := cells5 G27.out
    obtain ⟨q0, q1, q2, q3, q4, q5, q6, q7⟩ := cells8 G47.out
    cases k3
    ·go_wp2_with fail
     go_ret
     have hres := HR2.out
     rw [← HK.out.2.2.1] at hres
     exact ⟨by rw [hres]; first | rfl | simp, HB7.out⟩
    ·go_wp2_with fail
     refine (HM1.out w7 HC7.out).mono ?_
     rintro e w8 ⟨rfl, h8⟩
     have G08 := hdL ((h8.block _ (loh G07.out)).trans G07.out); have G18 := hdL ((h8.block _ (loh G17.out)).trans G17.out); have G28 := hdL ((h8.block _ (loh G27.out)).trans G27.out); have G48 := hdL ((h8.block _ (loh G47.out)).trans G47.out)
     have HB8 := hdL (HB7.out.trans (h8.mono HB7.out.size))
     clear h8 s0 s1 z0 z1 z2 z3 z4 q0 q1 q2 q3 q4 q5 q6 q7
     obtain ⟨s0, s1⟩ := cells2 G08.out
     obtain ⟨z0, z1, z2, z3, z4⟩ := cells5 G28.out
     obtain ⟨q0, q1, q2, q3, q4, q5, q6, q7⟩ := cells8 G48.out
     cases k4
     ·go_wp2_with fail
      go_ret
      have hres := HR2.out
      rw [← HK.out.2.2.2] at hres
      exact ⟨by rw [hres]; first | rfl | simp, HB8.out⟩
     ·have hres := HR2.out
      rw [← HK.out.1, ← HK.out.2.1, ← HK.out.2.2.1, ← HK.out.2.2.2] at hres
      have HR3 := hdL (show R = (oneB c && c.all (eachB st pool c)) by rw [hres]; simp; rfl)
      clear hres
      go_wp2_with fail
      clear s0 s1 z0 z1 z2 z3 z4 q0 q1 q2 q3 q4 q5 q6 q7
      go_loopw [57] (fun x wr => ∃ k : Nat, x = .int .i64 k ∧ k ≤ nC ∧ Hid (oneB (c.take k) = true) ∧ Hid ((c.take k).all (eachB st pool c) = true) ∧ Hid (Below w8.heap.size w8 wr)) (fun x _ => nC - (intOf x).toNat)
      case atStart => exact ⟨0, rfl, Nat.zero_le _, hdL rfl, hdL rfl, hdL (Below.refl _ _)⟩
      case round =>
       obtain ⟨k, rfl, hk, hone, hall, hbw⟩ := hrel
       by_cases hlt : k < nC
       ·obtain ⟨q, hq⟩ : ∃ q, c[k]? = some q := ⟨_, gEg (by rw [← HNC.out]; exact hlt)⟩
        have hbk := HB8.out.trans (hbw.out.mono HB8.out.size)
        obtain ⟨bP, oP, S, e9, hS, c0, c1', c2', c3⟩ := (HCC.out.below hbk).cells hq
        obtain ⟨q1, hq1⟩ : ∃ y, y = q.2.1 := ⟨_, rfl⟩
        obtain ⟨q2, hq2⟩ : ∃ y, y = q.2.2.1 := ⟨_, rfl⟩
        obtain ⟨q3, hq3⟩ : ∃ y, y = q.2.2.2 := ⟨_, rfl⟩
        rw [← hq1] at c1'; rw [← hq2] at c2'; rw [← hq3] at c3
        subst e9
        obtain ⟨wB, hwB, hbB, hxB, y1, y2⟩ := aBk wr #[.string S, .int .i64 q1, .int .i64 q2, .int .i64 q3] 41
        obtain ⟨bB, hbBe⟩ : ∃ b, wr.heap.size = b := ⟨_, rfl⟩
        rw [hbBe] at hxB
        have hb8B := hbw.out.trans (hbB.mono hbw.out.size)
        have G0B := hdL ((hb8B.block _ (loh G08.out)).trans G08.out); have G2B := hdL ((hb8B.block _ (loh G28.out)).trans G28.out)
        have GQB := hdL hxB; have HBB := hdL (hbk.trans (hbB.mono hbk.size)); have HB8B := hdL hb8B; have HSQ := hdL (And.intro hS (And.intro hq1 (And.intro hq2 hq3))); have HQ := hdL hq
        have hrc := fun W hW => HRC.out W hW q
        have hin := fun W hW => HIN.out W hW q
        have hhs := fun W hW => HHS.out W hW q
        rw [hS, ← hq1, ← hq2, ← hq3] at hrc hin hhs
        have HRQ := hdL hrc; have HIQ := hdL hin; have HHQ := hdL hhs
        have hkn : k ≤ 100000 := by omega
        clear hq hbk hS hq1 hq2 hq3 hbB hxB hb8B hrc hin hhs y1 y2
        obtain ⟨z0, z1, z2, z3, z4⟩ := cells5 G2B.out
        obtain ⟨d0, d1, d2, d3⟩ := cells4 GQB.out
        go_wp2_with fail
        go_loopw [13] (fun i wr => ∃ j : Nat, i = .int .i64 j ∧ j ≤ k ∧ Hid ((c.take j).all (fun y => decide (y.1 ≠ q.1)) = true) ∧ Hid (Below wB.heap.size wB wr)) (fun i _ => k - (intOf i).toNat)
        case atStart => exact ⟨0, rfl, Nat.zero_le _, hdL rfl, hdL (Below.refl _ _)⟩
        case round =>
         obtain ⟨j, rfl, hj, hdf, hb2⟩ := hrel
         by_cases hlj : j < k
         ·obtain ⟨y, hy⟩ : ∃ y, c[j]? = some y := ⟨_, gEg (by rw [← HNC.out]; omega)⟩
          have hbj := HBB.out.trans (hb2.out.mono HBB.out.size)
          obtain ⟨bJ, oJ, SJ, eJ, hSJ, f0, -⟩ := (HCC.out.below hbj).cells hy
          obtain ⟨rfl, rfl⟩ : bP = bJ ∧ oP = oJ := by simpa using eJ
          have hg2 := (hb2.out.block _ (loh G2B.out)).trans G2B.out
          have hgq := (hb2.out.block _ (loh GQB.out)).trans GQB.out
          clear z0 z1 z2 z3 z4 d0 d1 d2 d3
          obtain ⟨z0, z1, z2, z3, z4⟩ := cells5 hg2
          obtain ⟨d0, d1, d2, d3⟩ := cells4 hgq
          have hjC : j < nC := by omega
          obtain ⟨S', -, hS', hS2, -⟩ := strV_is q.1
          obtain rfl : S = S' := by have h1 := HSQ.out.1; rw [hS'] at h1; injection h1 with h1; exact h1.symm
          obtain ⟨SY, -, hSY, hSY2, -⟩ := strV_is y.1
          obtain rfl : SJ = SY := by rw [hSJ] at hSY; injection hSY
          have hee := str_eqb SJ S y.1 q.1 hSY2 hS2
          obtain ⟨t9, ht9⟩ : ∃ b, b = decide (y.1 = q.1) := ⟨_, rfl⟩
          rw [← ht9] at hee
          have HY := hdL hy; have HT9 := hdL ht9; have HANX := hdL (all_next (f := fun y => decide (y.1 ≠ q.1)) hy)
          clear hy hbj eJ hSJ hg2 hgq hS' hS2 hSY hSY2 ht9
          cases t9
          ·go_wp2_with fail
           go_quiet (fail)
           go_wp2_with fail
           go_roundw
           case rel => exact ⟨j + 1, by go_num, hlj, hdL (by rw [HANX.out, hdf.out]; have := HT9.out.symm; simpa using this), hdL (below_drewN_of hb2.out)⟩
           case measure => simp [intOf]; omega
          ·go_wp2_with fail
           go_quiet (fail)
           go_wp2_with fail
           go_ret
           have hres := HR3.out
           rw [one_no HQ.out HY.out hlj (by have := HT9.out.symm; simpa using this)] at hres
           exact ⟨by rw [hres]; rfl, below_drewN_of (HBB.out.trans (hb2.out.mono HBB.out.size))⟩
         ·obtain rfl : k = j := by omega
          have HONE := hdL (one_next HQ.out hone.out hdf.out)
          obtain ⟨wD, hwD⟩ : ∃ W, W = wr := ⟨_, rfl⟩
          subst hwD
          have G0D := hdL ((hb2.out.block _ (loh G0B.out)).trans G0B.out); have G2D := hdL ((hb2.out.block _ (loh G2B.out)).trans G2B.out); have GQD := hdL ((hb2.out.block _ (loh GQB.out)).trans GQB.out)
          have HBD := hdL (HBB.out.trans (hb2.out.mono HBB.out.size)); have HB8D := hdL (HB8B.out.trans (hb2.out.mono HB8B.out.size))
          clear z0 z1 z2 z3 z4 d0 d1 d2 d3
          obtain ⟨s0, s1⟩ := cells2 G0D.out
          obtain ⟨d0, d1, d2, d3⟩ := cells4 GQD.out
          go_wp2_with fail
          refine (HRQ.out _ HBD.out).mono ?_
          intro e wF hrp
          obtain ⟨rs', rx', ry', rz', rt', sa1, sn1, sc1, sa2, sn2, sc2, sa3, sc3, rb', rfl, hdp, hF⟩ := rrec_runs hrp
          obtain ⟨sn3, hsn3⟩ : ∃ n, n = (st.runs q).length := ⟨_, rfl⟩
          rw [← hsn3] at hdp ⊢
          obtain ⟨wG, hwG, hbG, hxG, y1, y2⟩ := aBk wF #[.string rs', .int .i64 rx', .int .i64 ry', .int .i64 rz', .string rt', .slice sa1 sn1 sc1, .slice sa2 sn2 sc2, .slice sa3 sn3 sc3] 62
          obtain ⟨bG, hbGe⟩ : ∃ b, wF.heap.size = b := ⟨_, rfl⟩
          rw [hbGe] at hxG
          have hFG := hF.trans (hbG.mono hF.size)
          have G0G := hdL ((hFG.block _ (loh G0D.out)).trans G0D.out); have G2G := hdL ((hFG.block _ (loh G2D.out)).trans G2D.out); have GQG := hdL ((hFG.block _ (loh GQD.out)).trans GQD.out)
          have GRG := hdL hxG; have HBG := hdL (HBD.out.trans (hFG.mono HBD.out.size)); have HB8G := hdL (HB8D.out.trans (hFG.mono HB8D.out.size)); have HDPG := hdL (hdp.below hbG)
          clear hrp hdp hF hbG hxG hFG hsn3 y1 y2 s0 s1 d0 d1 d2 d3
          obtain ⟨k5, hk5⟩ : ∃ b, b = inP pool q := ⟨_, rfl⟩
          obtain ⟨k6, hk6⟩ : ∃ b, b = st.has q := ⟨_, rfl⟩
          obtain ⟨k7, hk7⟩ : ∃ b, b = metB (st.runs q) c := ⟨_, rfl⟩
          have hiq := fun W hW => HIQ.out W hW
          rw [← hk5] at hiq
          have hhq := fun W hW => HHQ.out W hW
          rw [← hk6] at hhq
          have hmq := fun W (hW : Below wG.heap.size wG W) => HMT.out W (HBG.out.trans (hW.mono HBG.out.size)) _ _ (HDPG.out.below hW)
          rw [← hk7] at hmq
          have HI2 := hdL hiq; have HH2 := hdL hhq; have HM2 := hdL hmq; have HEA := hdL (show eachB st pool c q = (k5 && k6 && k7) by rw [hk5, hk6, hk7]; rfl)
          clear hiq hhq hmq hk5 hk6 hk7
          obtain ⟨s0, s1⟩ := cells2 G0G.out
          obtain ⟨z0, z1, z2, z3, z4⟩ := cells5 G2G.out
          obtain ⟨d0, d1, d2, d3⟩ := cells4 GQG.out
          obtain ⟨m0, m1, m2, m3, m4, m5, m6, m7⟩ := cells8 GRG.out
          go_wp2_with fail
          refine (HI2.out _ HBG.out).mono ?_
          rintro e wH ⟨rfl, hH⟩
          have G0H := hdL ((hH.block _ (loh G0G.out)).trans G0G.out); have G2H := hdL ((hH.block _ (loh G2G.out)).trans G2G.out); have GQH := hdL ((hH.block _ (loh GQG.out)).trans GQG.out); have GRH := hdL ((hH.block _ (loh GRG.out)).trans GRG.out)
          have HBH := hdL (HBG.out.trans (hH.mono HBG.out.size)); have HCH := hdL hH; have HB8H := hdL (HB8G.out.trans (hH.mono HB8G.out.size))
          clear hH s0 s1 z0 z1 z2 z3 z4 d0 d1 d2 d3 m0 m1 m2 m3 m4 m5 m6 m7
          obtain ⟨s0, s1⟩ := cells2 G0H.out
          obtain ⟨z0, z1, z2, z3, z4⟩ := cells5 G2H.out
          obtain ⟨d0, d1, d2, d3⟩ := cells4 GQH.out
          obtain ⟨m0, m1, m2, m3, m4, m5, m6, m7⟩ := cells8 GRH.out
          cases k5
          ·go_wp2_with fail
           go_ret
           have hres := HR3.out
           rw [all_no HQ.out HEA.out, Bool.and_false] at hres
           exact ⟨by first | (rw [hres]; rfl) | rw [hres], HBH.out⟩
          ·go_wp2_with fail
           refine (HH2.out _ HBH.out).mono ?_
           rintro e wI ⟨rfl, hI⟩
           have G0I := hdL ((hI.block _ (loh G0H.out)).trans G0H.out); have G2I := hdL ((hI.block _ (loh G2H.out)).trans G2H.out); have GQI := hdL ((hI.block _ (loh GQH.out)).trans GQH.out); have GRI := hdL ((hI.block _ (loh GRH.out)).trans GRH.out)
           have HBI := hdL (HBH.out.trans (hI.mono HBH.out.size)); have HCI := hdL (HCH.out.trans (hI.mono HCH.out.size)); have HB8I := hdL (HB8H.out.trans (hI.mono HB8H.out.size))
           clear hI s0 s1 z0 z1 z2 z3 z4 d0 d1 d2 d3 m0 m1 m2 m3 m4 m5 m6 m7
           obtain ⟨s0, s1⟩ := cells2 G0I.out
           obtain ⟨z0, z1, z2, z3, z4⟩ := cells5 G2I.out
           obtain ⟨d0, d1, d2, d3⟩ := cells4 GQI.out
           obtain ⟨m0, m1, m2, m3, m4, m5, m6, m7⟩ := cells8 GRI.out
           cases k6
           ·go_wp2_with fail
            go_ret
            have hres := HR3.out
            rw [all_no HQ.out HEA.out, Bool.and_false] at hres
            exact ⟨by first | (rw [hres]; rfl) | rw [hres], HBI.out⟩
           ·go_wp2_with fail
            refine (HM2.out _ HCI.out).mono ?_
            rintro e wJ ⟨rfl, hJ⟩
            have HBJ := hdL (HBI.out.trans (hJ.mono HBI.out.size)); have HB8J := hdL (HB8I.out.trans (hJ.mono HB8I.out.size))
            clear hJ s0 s1 z0 z1 z2 z3 z4 d0 d1 d2 d3 m0 m1 m2 m3 m4 m5 m6 m7
            cases k7
            ·go_wp2_with fail
             go_ret
             have hres := HR3.out
             rw [all_no HQ.out HEA.out, Bool.and_false] at hres
             exact ⟨by first | (rw [hres]; rfl) | rw [hres], HBJ.out⟩
            ·go_wp2_with fail
             go_roundw
             case rel => exact ⟨k + 1, by go_num, hlt, HONE, hdL (by rw [all_next HQ.out, hall.out, HEA.out]; rfl), HB8J⟩
             case measure => simp [intOf]; omega
       ·obtain rfl : nC = k := by omega
        have h1 := hone.out
        have h2 := hall.out
        rw [tLe (by rw [← HNC.out]; exact Nat.le_refl _)] at h1 h2
        have hres := HR3.out
        rw [h1, h2] at hres
        have HRE := hdL hres
        clear h1 h2 hres
        go_wp2_with fail
        go_ret
        exact ⟨by rw [HRE.out]; rfl, HB8.out.trans (hbw.out.mono HB8.out.size)⟩
end Go.Proofs.YtaagkndhgicifaaGreat
