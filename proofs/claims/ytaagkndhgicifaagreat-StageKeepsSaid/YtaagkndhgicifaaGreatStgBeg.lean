/- DERIVED. The two stocks of a pack, made. (Printed by stbeggen.py.) -/
import Derived.Test.YtaagkndhgicifaaGreatStgBeg0
namespace Go.Proofs.YtaagkndhgicifaaGreat
set_option maxHeartbeats 32000000
open Go.RowKit Go.Shelf
set_option linter.unusedVariables false
set_option linter.unusedSimpArgs false
set_option maxRecDepth 100000
theorem begun_any (w : World) (u1 u2 : Value) (x : Pack) (hx : PackAt w u1 u2 x) : Calls Tryz.prog 15 #[.agg #[u1, u2]] w (BegP w) := by
 obtain ⟨hp, hpl, hr⟩ := hx
 obtain ⟨a0, c0, rfl, hs1⟩ := id hp
 obtain ⟨a5, c5, rfl, hl1⟩ := id hr
 clear hs1 hl1
 obtain ⟨n0, hn0⟩ : ∃ y, y = x.seeds.length := ⟨_, rfl⟩
 obtain ⟨n5, hn5⟩ : ∃ y, y = x.recs.length := ⟨_, rfl⟩
 rw [← hn0] at hp ⊢; rw [← hn5] at hr ⊢
 obtain ⟨w0, hw0, hb0, hx0, y1, y2⟩ := aBk w #[.slice a0 n0 c0, .slice a5 n5 c5] 25
 obtain ⟨w1, hw1, hb1, hx1, y3, y4⟩ := zero2R w0 28
 obtain ⟨b2, hb2⟩ : ∃ b, w0.heap.size = b := ⟨_, rfl⟩
 have hb01 := hb0.trans (hb1.mono hb0.size)
 have g1 := (hb1.block _ (by omega)).trans hx0
 rw [hb2] at hx1
 have hnew := stknewY_any (fun b => b ≠ w.heap.size ∧ b ≠ b2) w1
 have HB1 := hdL hb01; have G11 := hdL g1; have G21 := hdL hx1; have HNEW := hdL hnew; have HP := hdL hp; have HPL := hdL hpl; have HR := hdL hr; have HN := hdL (And.intro hn0 hn5); have HSZ := hdL (show w1.heap.size = w.heap.size + 2 ∧ b2 = w.heap.size + 1 from by omega)
 clear hp hpl hr hn0 hn5 hb0 hb1 hb01 g1 hx0 hx1 hnew y1 y2 y3 y4
 go_enter Tryz.func15, Tryz.ntmps15
 go_wp2_with fail
 refine HNEW.out.mono ?_
 rintro e w2 ⟨B, F0, rfl, hst, hF0, h2⟩
 obtain ⟨w3, hw3, hb3, hx3, y1, y2⟩ := zero2R w2 28
 obtain ⟨b7, hb7⟩ : ∃ b, w2.heap.size = b := ⟨_, rfl⟩
 rw [hb7] at hx3
 have h23 := h2.trans (hb3.mono h2.size)
 obtain ⟨D, hD⟩ : ∃ D : Nat → Prop, D = (fun b : Nat => b = w.heap.size ∨ b = b2 ∨ b = b7) := ⟨_, rfl⟩
 have hbg : Bg w D w3 B F0 (.agg #[.slice none 0 0, .slice none 0 0]) St.empty := by
  have hlt := hst.lt
  have hsz := HSZ.out
  have hs2 := h2.size
  refine ⟨hst.keepF (Nat.le_of_lt (by omega)) (fun b hl hb hd => ?_) (fun b hl _ => hb3.block b hl), fun b hb => ⟨?_, fun hd => ?_⟩, RefAt.empty, fun b hd => ?_, HB1.out.trans (h23.mono HB1.out.size)⟩
  ·rw [hD] at hd; obtain ⟨g1, g2⟩ := hb; omega
  ·have := hF0 b hb; omega
  ·have h1 := hF0 b hb; have h2 := hlt b hb; rw [hD] at hd; omega
  ·rw [hD] at hd; omega
 have d1 : D w.heap.size := by rw [hD]; exact .inl rfl
 have d2 : D b2 := by rw [hD]; exact .inr (.inl rfl)
 have d7 : D b7 := by rw [hD]; exact .inr (.inr rfl)
 have G13 := hdL ((h23.block _ (loh G11.out)).trans G11.out); have G23 := hdL ((h23.block _ (loh G21.out)).trans G21.out)
 have HB7 := hdL (show b2 < b7 from by have h1 := HSZ.out; have h2 := h2.size; omega); have G73 := hdL hx3; have HBG := hdL hbg; have HD := hdL hD; have D1 := hdL d1; have D2 := hdL d2; have D7 := hdL d7
 clear h2 hb3 hx3 h23 hst hF0 hbg hD d1 d2 d7 y1 y2
 obtain ⟨V3, hV3, hx4, hc4⟩ := two_setR G73.out (.slice none 0 0) (.slice none 0 0)
 obtain ⟨m0, m1⟩ := cells2 G73.out
 have mf := foh G73.out
 go_upto_region 3 with fail
 try rw [hV3]
 have hbg4 := HBG.out.write D7.out hc4
 have G14 := hdL ((hc4.block _ (loh G13.out) (fun hm => by have := mSg.1 hm; have := HSZ.out; have := HB7.out; omega)).trans G13.out); have G24 := hdL ((hc4.block _ (loh G23.out) (fun hm => by have := mSg.1 hm; have := HSZ.out; have := HB7.out; omega)).trans G23.out); have G74 := hdL hx4; have HBG4 := hdL hbg4
 clear hV3 hx4 hc4 hbg4 m0 m1 mf
 obtain ⟨u0, u1⟩ := cells2 G14.out
 obtain ⟨z0, z1⟩ := cells2 G24.out
 have zf := foh G24.out
 obtain ⟨m0, m1⟩ := cells2 G74.out
 have mf := foh G74.out
 by_cases k0 : 12 < n0
 ·go_wp2_with fail
  go_region
  go_wp2_with fail
  obtain ⟨V, hV, hVx, hVc⟩ := two_setR (w := V3) G24.out (.slice none 0 0) (.slice none 0 0)
  try rw [hV]
  have r0 := cOh (w := V.drew) hVx 0
  have r1 := cOh (w := V.drew) hVx 1
  refine bodyPost_ret (v := .tuple #[.pointer (some ⟨B, 0, none⟩), .agg #[.slice none 0 0, .slice none 0 0], .bool false]) (by simp [results, Tryz.results15, go_sem, r0, r1]) rfl ?_
  exact begP_no (((HBG4.out.bel).trans (boC hVc (fun k hk => by have := HSZ.out; rw [mSg.1 hk]; omega) (HBG4.out.bel).size)).drew)
 by_cases k5 : 20 < n5
 ·go_wp2_with fail
  go_region
  go_wp2_with fail
  obtain ⟨V, hV, hVx, hVc⟩ := two_setR (w := V3) G24.out (.slice none 0 0) (.slice none 0 0)
  try rw [hV]
  have r0 := cOh (w := V.drew) hVx 0
  have r1 := cOh (w := V.drew) hVx 1
  refine bodyPost_ret (v := .tuple #[.pointer (some ⟨B, 0, none⟩), .agg #[.slice none 0 0, .slice none 0 0], .bool false]) (by simp [results, Tryz.results15, go_sem, r0, r1]) rfl ?_
  exact begP_no (((HBG4.out.bel).trans (boC hVc (fun k hk => by have := HSZ.out; rw [mSg.1 hk]; omega) (HBG4.out.bel).size)).drew)
 go_wp2_with fail
 clear u0 u1 z0 z1 zf m0 m1 mf
 go_loopw [32] (fun x wr => ∃ (k : Nat) (F : List Nat) (st : St) (a1 : Option Addr) (n1 c1 : Nat) (a2 : Option Addr) (n2 c2 : Nat), x = .int .i64 k ∧ k ≤ n0 ∧ Hid (Bg w D wr B F (.agg #[.slice a1 n1 c1, .slice a2 n2 c2]) st) ∧ Hid (wr.heap[w.heap.size]? = some (.cells #[.slice a0 n0 c0, .slice a5 n5 c5] 25 (0, 0))) ∧ Hid (wr.heap[b2]? = some (.cells #[.slice none 0 0, .slice none 0 0] 28 (0, 0))) ∧ Hid (wr.heap[b7]? = some (.cells #[.slice a1 n1 c1, .slice a2 n2 c2] 28 (0, 0)))) (fun x _ => n0 - (intOf x).toNat)
 case atStart => exact ⟨0, F0, St.empty, none, 0, 0, none, 0, 0, rfl, Nat.zero_le _, HBG4, G14, G24, G74⟩
 case round =>
  obtain ⟨k, F, st, a1, n1, c1, a2, n2, c2, rfl, hk, hbg, G14, G24, G74⟩ := hrel
  obtain ⟨W0, hW0⟩ : ∃ W, W = wr := ⟨_, rfl⟩
  subst hW0
  by_cases hlt : k < n0
  ·obtain ⟨q, hq⟩ : ∃ q, x.seeds[k]? = some q := ⟨_, gEg (by rw [← HN.out.1]; exact hlt)⟩
   have hsl := HPL.out q (List.mem_of_getElem? hq)
   obtain ⟨bC, oC, S, rfl, hS, q0, q1, q2, q3⟩ := (HP.out.below hbg.out.bel).cells hq
   obtain ⟨s1, hs1⟩ : ∃ y, y = q.2.1 := ⟨_, rfl⟩
   obtain ⟨s2, hs2⟩ : ∃ y, y = q.2.2.1 := ⟨_, rfl⟩
   obtain ⟨s3, hs3⟩ : ∃ y, y = q.2.2.2 := ⟨_, rfl⟩
   rw [← hs1] at q1; rw [← hs2] at q2; rw [← hs3] at q3
   obtain ⟨w5, hw5, hb5, hx5, y1, y2⟩ := aBk W0 #[.string S, .int .i64 s1, .int .i64 s2, .int .i64 s3] 41
   obtain ⟨b9, hb9⟩ : ∃ b, W0.heap.size = b := ⟨_, rfl⟩
   rw [hb9] at hx5
   have hbg5 := hbg.out.below hb5
   have hD9 : ¬ D b9 := fun hd => by have := (hbg.out.low b9 hd).2; omega
   have hH := rseed_any w5 _ _ st hbg5.ref q hsl (by have := hbg5.stk.few8; omega)
   have hsa := fun W (hW : StkAtY (fun b => ¬ D b) W B F st) => stkseed_any W B F st hW q hsl
   rw [hS, ← hs1, ← hs2, ← hs3] at hH hsa
   obtain ⟨st', hst'⟩ : ∃ s, s = (st.seed q).1 := ⟨_, rfl⟩
   obtain ⟨cd, hcd⟩ : ∃ s, s = (st.seed q).2 := ⟨_, rfl⟩
   rw [← hst', ← hcd] at hH hsa
   have G15 := hdL ((hb5.block _ (loh G14.out)).trans G14.out); have G25 := hdL ((hb5.block _ (loh G24.out)).trans G24.out); have G75 := hdL ((hb5.block _ (loh G74.out)).trans G74.out)
   have G95 := hdL hx5; have HBG5 := hdL hbg5; have HH := hdL hH; have HSX := hdL hsa; have HD9 := hdL hD9
   clear hq hb5 hx5 hbg5 hD9 hH hsa hst' hcd y1 y2 hsl hS hs1 hs2 hs3
   obtain ⟨u0, u1⟩ := cells2 G15.out
   obtain ⟨z0, z1⟩ := cells2 G25.out
   have zf := foh G25.out
   obtain ⟨m0, m1⟩ := cells2 G75.out
   have mf := foh G75.out
   obtain ⟨k0, k1, k2, k3⟩ := cells4 G95.out
   go_wp2_with fail
   refine HH.out.mono ?_
   rintro e w6 ⟨v', rfl, href, h6⟩
   obtain ⟨a3, n3, c3, a4, n4, c4, rfl⟩ := refShape href
   obtain ⟨w7, hw7, hb7', hx7, z1', z2'⟩ := aBk w6 #[.slice a3 n3 c3, .slice a4 n4 c4] 28
   obtain ⟨bn, hbn⟩ : ∃ b, w6.heap.size = b := ⟨_, rfl⟩
   rw [hbn] at hx7
   have h67 := h6.trans (hb7'.mono h6.size)
   obtain ⟨W, hW, hWx, hWc⟩ := two_setR ((h67.block _ (loh G75.out)).trans G75.out) (.slice a3 n3 c3) (.slice a4 n4 c4)
   obtain ⟨j1, j2, j3⟩ := HBG5.out.mid (href.below hb7') h67 D7.out hWc
   have hlow : ∀ b, D b → w.heap.size ≤ b ∧ b < W.heap.size := fun b hd => ⟨(HBG5.out.low b hd).1, Nat.lt_of_lt_of_le (HBG5.out.low b hd).2 (Nat.le_trans h67.size hWc.size)⟩
   have G17 := hdL ((hWc.block _ (by have := loh G15.out; have := h67.size; omega) (fun hm => by have := mSg.1 hm; have := HSZ.out; have := HB7.out; omega)).trans ((h67.block _ (loh G15.out)).trans G15.out))
   have G27 := hdL ((hWc.block _ (by have := loh G25.out; have := h67.size; omega) (fun hm => by have := mSg.1 hm; have := HSZ.out; have := HB7.out; omega)).trans ((h67.block _ (loh G25.out)).trans G25.out))
   have G97 := hdL ((hWc.block _ (by have := loh G95.out; have := h67.size; omega) (fun hm => HD9.out (by rw [mSg.1 hm]; exact D7.out))).trans ((h67.block _ (loh G95.out)).trans G95.out))
   have G77 := hdL hWx; have J1 := hdL j1; have J2 := hdL j2; have J3 := hdL j3; have HLOW := hdL hlow
   have hsc := HSX.out W j1
   have HSC2 := hdL hsc
   obtain ⟨x0, x1⟩ := cells2 ((h67.block _ (loh G75.out)).trans G75.out)
   have xf := foh ((h67.block _ (loh G75.out)).trans G75.out)
   obtain ⟨p0, p1⟩ := cells2 hx7
   clear href h6 hb7' hx7 h67 hWx hWc j1 j2 j3 hlow hsc z1' z2' u0 u1 z0 z1 zf m0 m1 mf k0 k1 k2 k3
   go_upto_region 10 with fail
   try rw [hW]
   clear x0 x1 xf p0 p1 hW
   obtain ⟨u0, u1⟩ := cells2 G17.out
   obtain ⟨z0, z1⟩ := cells2 G27.out
   have zf := foh G27.out
   obtain ⟨m0, m1⟩ := cells2 G77.out
   have mf := foh G77.out
   obtain ⟨k0, k1, k2, k3⟩ := cells4 G97.out
   by_cases e4 : 100 < S.size
   ·go_wp2_with fail
    go_region
    go_wp2_with fail
    obtain ⟨V, hV, hVx, hVc⟩ := two_setR (w := W) G27.out (.slice a3 n3 c3) (.slice a4 n4 c4)
    try rw [hV]
    have r0 := cOh (w := V.drew) hVx 0
    have r1 := cOh (w := V.drew) hVx 1
    refine bodyPost_ret (v := .tuple #[.pointer (some ⟨B, 0, none⟩), .agg #[.slice a3 n3 c3, .slice a4 n4 c4], .bool false]) (by simp [results, Tryz.results15, go_sem, r0, r1]) rfl ?_
    exact begP_no (((J3.out).trans (boC hVc (fun k hk => by have := HSZ.out; rw [mSg.1 hk]; omega) (J3.out).size)).drew)
   go_wp2_with fail
   refine HSC2.out.mono ?_
   intro e w8 hs8
   obtain ⟨rfl, ⟨F', hbg8⟩, hkeep⟩ := Bg.next J1.out J2.out J3.out HBG5.out.new HLOW.out hs8
   have HBG8 := hdL hbg8; have G18 := hdL (hkeep _ _ D1.out G17.out); have G28 := hdL (hkeep _ _ D2.out G27.out); have G78 := hdL (hkeep _ _ D7.out G77.out)
   clear hs8 hbg8 hkeep u0 u1 z0 z1 zf m0 m1 mf k0 k1 k2 k3
   have hcc : ((cd : Int) == cd) = true := by simp
   go_wp2_with fail
   go_roundw
   case rel => exact ⟨k + 1, F', st', a3, n3, c3, a4, n4, c4, by go_num, hlt, HBG8, G18, G28, G78⟩
   case measure => simp [intOf]; omega
  ·obtain rfl : n0 = k := by omega
   obtain ⟨W1, hW1⟩ : ∃ W, W = W0 := ⟨_, rfl⟩
   subst hW1
   obtain ⟨u0, u1⟩ := cells2 G14.out
   obtain ⟨z0, z1⟩ := cells2 G24.out
   have zf := foh G24.out
   obtain ⟨m0, m1⟩ := cells2 G74.out
   have mf := foh G74.out
   go_wp2_with fail
   clear u0 u1 z0 z1 zf m0 m1 mf
   go_loopw [60] (fun x wr => ∃ (k : Nat) (F : List Nat) (st : St) (a1 : Option Addr) (n1 c1 : Nat) (a2 : Option Addr) (n2 c2 : Nat), x = .int .i64 k ∧ k ≤ n5 ∧ Hid (Bg w D wr B F (.agg #[.slice a1 n1 c1, .slice a2 n2 c2]) st) ∧ Hid (wr.heap[w.heap.size]? = some (.cells #[.slice a0 n0 c0, .slice a5 n5 c5] 25 (0, 0))) ∧ Hid (wr.heap[b2]? = some (.cells #[.slice none 0 0, .slice none 0 0] 28 (0, 0))) ∧ Hid (wr.heap[b7]? = some (.cells #[.slice a1 n1 c1, .slice a2 n2 c2] 28 (0, 0)))) (fun x _ => n5 - (intOf x).toNat)
   case atStart => exact ⟨0, F, st, a1, n1, c1, a2, n2, c2, rfl, Nat.zero_le _, hbg, G14, G24, G74⟩
   case round =>
    obtain ⟨k, F, st, a1, n1, c1, a2, n2, c2, rfl, hk, hbg, G14, G24, G74⟩ := hrel
    obtain ⟨W0, hW0⟩ : ∃ W, W = wr := ⟨_, rfl⟩
    subst hW0
    by_cases hlt : k < n5
    ·obtain ⟨q, hq⟩ : ∃ q, x.recs[k]? = some q := ⟨_, gEg (by rw [← HN.out.2]; exact hlt)⟩
     obtain ⟨bC, oC, R, Q, t1, m1, d1, t2, m2, d2, t3, m3, d3, rfl, hR, hrec, q0, q1, q2, q3, q4, q5, q6, q7⟩ := (HR.out.below hbg.out.bel).cells hq
     have hrec0 : ∃ vs, vs = [(.string R : Value), .int .i64 q.pkg.2.1, .int .i64 q.pkg.2.2.1, .int .i64 q.pkg.2.2.2, .string Q, .slice t1 m1 d1, .slice t2 m2 d2, .slice t3 m3 d3] ∧ RecAt (fun b => b < w.heap.size) W0 vs q := by
      obtain ⟨a', c', e', -, hcs⟩ := HR.out
      obtain ⟨rfl, -, rfl⟩ := Value.slice.inj e'
      obtain ⟨b', o', e2, -, -, hcs2⟩ := hcs (fun e => by rw [e] at hq; cases hq)
      obtain ⟨rfl, rfl⟩ : bC = b' ∧ oC = o' := by injection e2 with e2; injection e2 with e3 e4; exact ⟨e3, e4⟩
      obtain ⟨vs, h1, h2⟩ := hcs2 k q hq
      obtain ⟨s', t', a1', n1', c1', a2', n2', c2', a3', n3', c3', rfl, hs', -⟩ := h1.shape
      have e := fun j u v hj (hv : W0.cell? ⟨bC, oC + k * 8 + j, none⟩ = some v) => sIj ((bkp hbg.out.bel _ _ (h2 j u hj)).symm.trans hv)
      have e0 := e 0 _ _ rfl q0; have e4 := e 4 _ _ rfl q4; have e5 := e 5 _ _ rfl q5; have e6 := e 6 _ _ rfl q6; have e7 := e 7 _ _ rfl q7
      rw [e0, e4, e5, e6, e7] at h1
      exact ⟨_, rfl, h1.old hbg.out.bel⟩
     obtain ⟨_, rfl, hrec⟩ := hrec0
     obtain ⟨r1, hr1⟩ : ∃ y, y = q.pkg.2.1 := ⟨_, rfl⟩
     obtain ⟨r2, hr2⟩ : ∃ y, y = q.pkg.2.2.1 := ⟨_, rfl⟩
     obtain ⟨r3, hr3⟩ : ∃ y, y = q.pkg.2.2.2 := ⟨_, rfl⟩
     rw [← hr1] at q1; rw [← hr2] at q2; rw [← hr3] at q3; rw [← hr1, ← hr2, ← hr3] at hrec
     obtain ⟨w5, hw5, hb5, hx5, y1, y2⟩ := aBk W0 #[.string R, .int .i64 r1, .int .i64 r2, .int .i64 r3, .string Q, .slice t1 m1 d1, .slice t2 m2 d2, .slice t3 m3 d3] 62
     obtain ⟨b9, hb9⟩ : ∃ b, W0.heap.size = b := ⟨_, rfl⟩
     rw [hb9] at hx5
     have hbg5 := hbg.out.below hb5
     have hD9 : ¬ D b9 := fun hd => by have := (hbg.out.low b9 hd).2; omega
     have hH := radd_any w5 _ _ st hbg5.ref (fun b => b < w.heap.size) _ q (hrec.below hb5) (fun b hl hz => ⟨fun hm => by have := (hbg5.new b hm).1; omega, fun hd => by have := (hbg5.low b hd).1; omega⟩) (by have := hbg5.stk.few8; omega)
     have hsa := fun W (hW : StkAtY (fun b => ¬ D b) W B F st) (hr : RecAt (fun b => b < w.heap.size) W _ q) (hl : ∀ b, D b → b < W.heap.size) => stkaddY_any W B F st hW _ [.string R, .int .i64 r1, .int .i64 r2, .int .i64 r3, .string Q, .slice t1 m1 d1, .slice t2 m2 d2, .slice t3 m3 d3] q hr (fun b hb hd => by have := hl b hd; omega)
     obtain ⟨st', hst'⟩ : ∃ s, s = (st.add q).1 := ⟨_, rfl⟩
     obtain ⟨cd, hcd⟩ : ∃ s, s = (st.add q).2 := ⟨_, rfl⟩
     rw [← hst', ← hcd] at hH hsa
     have G15 := hdL ((hb5.block _ (loh G14.out)).trans G14.out); have G25 := hdL ((hb5.block _ (loh G24.out)).trans G24.out); have G75 := hdL ((hb5.block _ (loh G74.out)).trans G74.out)
     have G95 := hdL hx5; have HBG5 := hdL hbg5; have HH := hdL hH; have HSX := hdL hsa; have HD9 := hdL hD9
     have HREC := hdL (hrec.below hb5)
     clear hq hb5 hx5 hbg5 hD9 hH hsa hst' hcd y1 y2 hR hrec hr1 hr2 hr3
     obtain ⟨u0, u1⟩ := cells2 G15.out
     obtain ⟨z0, z1⟩ := cells2 G25.out
     have zf := foh G25.out
     obtain ⟨m0, m1⟩ := cells2 G75.out
     have mf := foh G75.out
     obtain ⟨k0, k1, k2, k3, k4, k5, k6, k7⟩ := cells8 G95.out
     by_cases e2 : 20 < m2
     ·go_wp2_with fail
      go_region
      go_wp2_with fail
      obtain ⟨V, hV, hVx, hVc⟩ := two_setR (w := w5) G25.out (.slice a1 n1 c1) (.slice a2 n2 c2)
      try rw [hV]
      have r0 := cOh (w := V.drew) hVx 0
      have r1 := cOh (w := V.drew) hVx 1
      refine bodyPost_ret (v := .tuple #[.pointer (some ⟨B, 0, none⟩), .agg #[.slice a1 n1 c1, .slice a2 n2 c2], .bool false]) (by simp [results, Tryz.results15, go_sem, r0, r1]) rfl ?_
      exact begP_no (((HBG5.out.bel).trans (boC hVc (fun k hk => by have := HSZ.out; rw [mSg.1 hk]; omega) (HBG5.out.bel).size)).drew)
     by_cases e3 : 20 < m3
     ·go_wp2_with fail
      go_region
      go_wp2_with fail
      obtain ⟨V, hV, hVx, hVc⟩ := two_setR (w := w5) G25.out (.slice a1 n1 c1) (.slice a2 n2 c2)
      try rw [hV]
      have r0 := cOh (w := V.drew) hVx 0
      have r1 := cOh (w := V.drew) hVx 1
      refine bodyPost_ret (v := .tuple #[.pointer (some ⟨B, 0, none⟩), .agg #[.slice a1 n1 c1, .slice a2 n2 c2], .bool false]) (by simp [results, Tryz.results15, go_sem, r0, r1]) rfl ?_
      exact begP_no (((HBG5.out.bel).trans (boC hVc (fun k hk => by have := HSZ.out; rw [mSg.1 hk]; omega) (HBG5.out.bel).size)).drew)
     by_cases e5 : 100 < R.size
     ·go_wp2_with fail
      go_region
      go_wp2_with fail
      obtain ⟨V, hV, hVx, hVc⟩ := two_setR (w := w5) G25.out (.slice a1 n1 c1) (.slice a2 n2 c2)
      try rw [hV]
      have r0 := cOh (w := V.drew) hVx 0
      have r1 := cOh (w := V.drew) hVx 1
      refine bodyPost_ret (v := .tuple #[.pointer (some ⟨B, 0, none⟩), .agg #[.slice a1 n1 c1, .slice a2 n2 c2], .bool false]) (by simp [results, Tryz.results15, go_sem, r0, r1]) rfl ?_
      exact begP_no (((HBG5.out.bel).trans (boC hVc (fun k hk => by have := HSZ.out; rw [mSg.1 hk]; omega) (HBG5.out.bel).size)).drew)
     go_wp2_with fail
     refine HH.out.mono ?_
     rintro e w6 ⟨v', rfl, href, h6⟩
     obtain ⟨a3, n3, c3, a4, n4, c4, rfl⟩ := refShape href
     obtain ⟨w7, hw7, hb7', hx7, z1', z2'⟩ := aBk w6 #[.slice a3 n3 c3, .slice a4 n4 c4] 28
     obtain ⟨bn, hbn⟩ : ∃ b, w6.heap.size = b := ⟨_, rfl⟩
     rw [hbn] at hx7
     have h67 := h6.trans (hb7'.mono h6.size)
     obtain ⟨W, hW, hWx, hWc⟩ := two_setR ((h67.block _ (loh G75.out)).trans G75.out) (.slice a3 n3 c3) (.slice a4 n4 c4)
     obtain ⟨j1, j2, j3⟩ := HBG5.out.mid (href.below hb7') h67 D7.out hWc
     have hlow : ∀ b, D b → w.heap.size ≤ b ∧ b < W.heap.size := fun b hd => ⟨(HBG5.out.low b hd).1, Nat.lt_of_lt_of_le (HBG5.out.low b hd).2 (Nat.le_trans h67.size hWc.size)⟩
     have G17 := hdL ((hWc.block _ (by have := loh G15.out; have := h67.size; omega) (fun hm => by have := mSg.1 hm; have := HSZ.out; have := HB7.out; omega)).trans ((h67.block _ (loh G15.out)).trans G15.out))
     have G27 := hdL ((hWc.block _ (by have := loh G25.out; have := h67.size; omega) (fun hm => by have := mSg.1 hm; have := HSZ.out; have := HB7.out; omega)).trans ((h67.block _ (loh G25.out)).trans G25.out))
     have G97 := hdL ((hWc.block _ (by have := loh G95.out; have := h67.size; omega) (fun hm => HD9.out (by rw [mSg.1 hm]; exact D7.out))).trans ((h67.block _ (loh G95.out)).trans G95.out))
     have G77 := hdL hWx; have J1 := hdL j1; have J2 := hdL j2; have J3 := hdL j3; have HLOW := hdL hlow
     have hrecW : RecAt (fun b => b < w.heap.size) W _ q := (HREC.out.below h67).keep (Keep.of_block (fun b _ hz => hz) hWc.size (fun b hl hz => hWc.block b hl (fun hm => by have h1 : b < w.heap.size := hz; have h2 := (HBG5.out.low b7 D7.out).1; have := mSg.1 hm; omega)))
     have hsc := HSX.out W j1 hrecW (fun b hd => (hlow b hd).2)
     have HSC2 := hdL hsc
     obtain ⟨x0, x1⟩ := cells2 ((h67.block _ (loh G75.out)).trans G75.out)
     have xf := foh ((h67.block _ (loh G75.out)).trans G75.out)
     obtain ⟨p0, p1⟩ := cells2 hx7
     clear href h6 hb7' hx7 h67 hWx hWc j1 j2 j3 hlow hsc z1' z2' u0 u1 z0 z1 zf m0 m1 mf k0 k1 k2 k3 k4 k5 k6 k7
     go_upto_region 20 with fail
     try rw [hW]
     clear x0 x1 xf p0 p1 hW
     obtain ⟨u0, u1⟩ := cells2 G17.out
     obtain ⟨z0, z1⟩ := cells2 G27.out
     have zf := foh G27.out
     obtain ⟨m0, m1⟩ := cells2 G77.out
     have mf := foh G77.out
     obtain ⟨k0, k1, k2, k3, k4, k5, k6, k7⟩ := cells8 G97.out
     go_wp2_with fail
     refine HSC2.out.mono ?_
     intro e w8 hs8
     obtain ⟨rfl, ⟨F', hbg8⟩, hkeep⟩ := Bg.next J1.out J2.out J3.out HBG5.out.new HLOW.out hs8
     have HBG8 := hdL hbg8; have G18 := hdL (hkeep _ _ D1.out G17.out); have G28 := hdL (hkeep _ _ D2.out G27.out); have G78 := hdL (hkeep _ _ D7.out G77.out)
     clear hs8 hbg8 hkeep u0 u1 z0 z1 zf m0 m1 mf k0 k1 k2 k3 k4 k5 k6 k7
     have hcc : ((cd : Int) == cd) = true := by simp
     go_wp2_with fail
     go_roundw
     case rel => exact ⟨k + 1, F', st', a3, n3, c3, a4, n4, c4, by go_num, hlt, HBG8, G18, G28, G78⟩
     case measure => simp [intOf]; omega
    ·obtain rfl : k = n5 := by omega
     obtain ⟨u0, u1⟩ := cells2 G14.out
     obtain ⟨z0, z1⟩ := cells2 G24.out
     have zf := foh G24.out
     obtain ⟨m0, m1⟩ := cells2 G74.out
     have mf := foh G74.out
     go_wp2_with fail
     go_region
     go_wp2_with fail
     obtain ⟨V, hV, hVx, hVc⟩ := two_setR (w := W0) G24.out (.slice a1 n1 c1) (.slice a2 n2 c2)
     try rw [hV]
     have r0 := cOh (w := V.drew) hVx 0
     have r1 := cOh (w := V.drew) hVx 1
     refine bodyPost_ret (v := .tuple #[.pointer (some ⟨B, 0, none⟩), .agg #[.slice a1 n1 c1, .slice a2 n2 c2], .bool true]) (by simp [results, Tryz.results15, go_sem, r0, r1]) rfl ?_
     have hbgV := (hbg.out.write D2.out hVc).below (show Below V.heap.size V V.drew from (Below.refl _ V).drew)
     exact ⟨hbgV.bel, B, a1, n1, c1, a2, n2, c2, true, rfl, fun _ => ⟨st, F, hbgV.beg⟩⟩
end Go.Proofs.YtaagkndhgicifaaGreat
