/- DERIVED. The two stocks of a pack of law 17, made. (Printed by plnbeggen.py.) -/
import Derived.Test.YtaagkndhgicifaaGreatStgBeg0
namespace Go.Proofs.YtaagkndhgicifaaGreat
set_option maxHeartbeats 32000000
open Go.RowKit Go.Shelf
set_option linter.unusedVariables false
set_option linter.unusedSimpArgs false
set_option maxRecDepth 100000
structure Bh (w : World) (D : Nat → Prop) (wr : World) (B : Nat) (F : List Nat) (vm : Value) (st st2 : St) : Prop where
 stk : StkAtY (fun b => ¬ D b) wr B F st
 new : ∀ b ∈ F, w.heap.size ≤ b ∧ ¬ D b
 ref : RefAt (fun b => b ∉ F ∧ ¬ D b) wr vm st2
 low : ∀ b, D b → w.heap.size ≤ b ∧ b < wr.heap.size
 bel : Below w.heap.size w wr
section
variable {w wr wa W wb : World} {D : Nat → Prop} {B : Nat} {F : List Nat} {vm vm' : Value} {st st' : St}
theorem Bh.next {c : Int} {e : Ending} (h : Bg w D W B F vm st) (hs : SeedPY (fun b => ¬ D b) W B F st' c e wb) :
  e = .returned (.int .i64 c) ∧ Keep (fun b => b < w.heap.size) (fun b => b < w.heap.size) W wb ∧ (∀ b o, b ∉ F → W.heap[b]? = some o → wb.heap[b]? = some o) ∧ ∃ F', Bh w D wb B F' vm st' st := by
 obtain ⟨rfl, F', g1, g2, g3⟩ := hs
 have k1 : ∀ b ∈ F', w.heap.size ≤ b ∧ ¬ D b := fun b hb => by
  rcases g3 b hb with hb | hb
  ·exact h.new b hb
  ·exact ⟨Nat.le_trans h.bel.size hb, fun hd => by have := (h.low b hd).2; omega⟩
 have k2 : ∀ b, b < W.heap.size → b ∉ F → b ∉ F' := fun b hl hz hm => by
  rcases g3 b hm with hb | hb
  ·exact hz hb
  ·omega
 exact ⟨rfl, Keep.of_block (fun b _ hz => hz) g2.size (fun b hl hz => g2.block b hl (fun hm => by have h1 := (h.new b hm).1; have h2 : b < w.heap.size := hz; omega)), fun b o hn ho => (g2.block b (loh ho) hn).trans ho, F',
  ⟨g1, k1, h.ref.keep (Keep.of_block (fun b hl hz => ⟨k2 b hl hz.1, hz.2⟩) g2.size (fun b hl hz => g2.block b hl hz.1)), fun b hd => ⟨(h.low b hd).1, Nat.lt_of_lt_of_le (h.low b hd).2 g2.size⟩, h.bel.trans (boC g2 (fun k hk => (h.new k hk).1) h.bel.size)⟩⟩
theorem Bh.mid {b7 : Nat} (h : Bh w D wr B F vm st' st) (hr : RefAt (zPlus (fun b => b ∉ F ∧ ¬ D b) wr.heap.size) wa vm' st') (hab : Below wr.heap.size wr wa) (hD : D b7) (hW : Ch [b7] wa W) : Bg w D W B F vm' st' := by
 have hlt := h.stk.lt
 have h1 := h.stk.below hab
 have hb := h.bel.trans (hab.mono h.bel.size)
 refine ⟨h1.keepF hW.size (fun b _ hb => hb) (fun b hl hb => hW.block b hl (fun hm => ?_)), h.new, hr.keep (Keep.of_block (fun b hl hz => ?_) hW.size (fun b hl hz => hW.block b hl (fun hm => ?_))), fun b hd => ⟨(h.low b hd).1, Nat.lt_of_lt_of_le (h.low b hd).2 (Nat.le_trans hab.size hW.size)⟩, ?_⟩
 ·rw [mSg.1 hm] at hb
  rcases hb with hb | hb
  ·exact (h.new b7 hb).2 hD
  ·exact hb hD
 ·rcases hz with hz | hz
  ·exact hz
  ·exact ⟨fun hm => by have := hlt b hm; omega, fun hd => by have := (h.low b hd).2; omega⟩
 ·rw [mSg.1 hm] at hz
  rcases hz with hz | hz
  ·exact hz.2 hD
  ·have := (h.low b7 hD).2; omega
 ·exact hb.trans (boC hW (fun k hk => by rw [mSg.1 hk]; exact (h.low b7 hD).1) hb.size)
end
theorem begun17_any (w : World) (u1 u2 : Value) (x : Pack) (hx : PackAt w u1 u2 x) : Calls Tryz.prog 37 #[.agg #[u1, u2]] w (BegP w) := by
 obtain ⟨hp, hpl, hr⟩ := hx
 obtain ⟨a0, c0, rfl, hs1⟩ := id hp
 obtain ⟨a5, c5, rfl, hl1⟩ := id hr
 clear hs1 hl1
 obtain ⟨n0, hn0⟩ : ∃ y, y = x.seeds.length := ⟨_, rfl⟩
 obtain ⟨n5, hn5⟩ : ∃ y, y = x.recs.length := ⟨_, rfl⟩
 rw [← hn0] at hp ⊢; rw [← hn5] at hr ⊢
 obtain ⟨w0, hw0, hb0, hx0, y1, y2⟩ := aBk w #[.slice a0 n0 c0, .slice a5 n5 c5] 79
 obtain ⟨w1, hw1, hb1, hx1, y3, y4⟩ := zero2R w0 28
 obtain ⟨b2, hb2⟩ : ∃ b, w0.heap.size = b := ⟨_, rfl⟩
 have hb01 := hb0.trans (hb1.mono hb0.size)
 have g1 := (hb1.block _ (by omega)).trans hx0
 rw [hb2] at hx1
 have hnew := stknewY_any (fun b => b ≠ w.heap.size ∧ b ≠ b2) w1
 have HB1 := hdL hb01; have G11 := hdL g1; have G21 := hdL hx1; have HNEW := hdL hnew; have HP := hdL hp; have HPL := hdL hpl; have HR := hdL hr; have HN := hdL (And.intro hn0 hn5); have HSZ := hdL (show w1.heap.size = w.heap.size + 2 ∧ b2 = w.heap.size + 1 from by omega)
 clear hp hpl hr hn0 hn5 hb0 hb1 hb01 g1 hx0 hx1 hnew y1 y2 y3 y4
 go_enter Tryz.func37, Tryz.ntmps37
 go_wp2_with fail
 refine HNEW.out.mono ?_
 rintro e w2 ⟨B, F0, rfl, hst, hF0, h2⟩
 obtain ⟨w3, hw3, hb3, hx3, y1, y2⟩ := zero2R w2 28
 obtain ⟨b7, hb7⟩ : ∃ b, w2.heap.size = b := ⟨_, rfl⟩
 rw [hb7] at hx3
 have h23 := h2.trans (hb3.mono h2.size)
 obtain ⟨D, hD⟩ : ∃ D : Nat → Prop, D = (fun b : Nat => b = w.heap.size ∨ b = b2 ∨ b = b7) := ⟨_, rfl⟩
 have hbg : Bg w D w3 B F0 (.agg #[.slice none 0 0, .slice none 0 0]) St.empty := by
  have hlt := hst.lt
  have hsz := HSZ.out
  have hs2 := h2.size
  refine ⟨hst.keepF (Nat.le_of_lt (by omega)) (fun b hl hb hd => ?_) (fun b hl _ => hb3.block b hl), fun b hb => ⟨?_, fun hd => ?_⟩, RefAt.empty, fun b hd => ?_, HB1.out.trans (h23.mono HB1.out.size)⟩
  ·rw [hD] at hd; obtain ⟨g1, g2⟩ := hb; omega
  ·have := hF0 b hb; omega
  ·have h1 := hF0 b hb; have h2 := hlt b hb; rw [hD] at hd; omega
  ·rw [hD] at hd; omega
 have d1 : D w.heap.size := by rw [hD]; exact .inl rfl
 have d2 : D b2 := by rw [hD]; exact .inr (.inl rfl)
 have d7 : D b7 := by rw [hD]; exact .inr (.inr rfl)
 have G13 := hdL ((h23.block _ (loh G11.out)).trans G11.out); have G23 := hdL ((h23.block _ (loh G21.out)).trans G21.out)
 have HB7 := hdL (show b2 < b7 from by have h1 := HSZ.out; have h2 := h2.size; omega); have G73 := hdL hx3; have HBG := hdL hbg; have HD := hdL hD; have D1 := hdL d1; have D2 := hdL d2; have D7 := hdL d7
 clear h2 hb3 hx3 h23 hst hF0 hbg hD d1 d2 d7 y1 y2
 obtain ⟨V3, hV3, hx4, hc4⟩ := two_setR G73.out (.slice none 0 0) (.slice none 0 0)
 obtain ⟨m0, m1⟩ := cells2 G73.out
 have mf := foh G73.out
 go_upto_region 3 with fail
 try rw [hV3]
 have hbg4 := HBG.out.write D7.out hc4
 have G14 := hdL ((hc4.block _ (loh G13.out) (fun hm => by have := mSg.1 hm; have := HSZ.out; have := HB7.out; omega)).trans G13.out); have G24 := hdL ((hc4.block _ (loh G23.out) (fun hm => by have := mSg.1 hm; have := HSZ.out; have := HB7.out; omega)).trans G23.out); have G74 := hdL hx4; have HBG4 := hdL hbg4
 clear hV3 hx4 hc4 hbg4 m0 m1 mf
 obtain ⟨u0, u1⟩ := cells2 G14.out
 obtain ⟨z0, z1⟩ := cells2 G24.out
 have zf := foh G24.out
 obtain ⟨m0, m1⟩ := cells2 G74.out
 have mf := foh G74.out
 by_cases k0 : 12 < n0
 ·go_wp2_with fail
  go_region
  go_wp2_with fail
  obtain ⟨V, hV, hVx, hVc⟩ := two_setR (w := V3) G24.out (.slice none 0 0) (.slice none 0 0)
  try rw [hV]
  have r0 := cOh (w := V.drew) hVx 0
  have r1 := cOh (w := V.drew) hVx 1
  refine bodyPost_ret (v := .tuple #[.pointer (some ⟨B, 0, none⟩), .agg #[.slice none 0 0, .slice none 0 0], .bool false]) (by simp [results, Tryz.results37, go_sem, r0, r1]) rfl ?_
  exact begP_no (((HBG4.out.bel).trans (boC hVc (fun k hk => by have := HSZ.out; rw [mSg.1 hk]; omega) (HBG4.out.bel).size)).drew)
 by_cases k5 : 20 < n5
 ·go_wp2_with fail
  go_region
  go_wp2_with fail
  obtain ⟨V, hV, hVx, hVc⟩ := two_setR (w := V3) G24.out (.slice none 0 0) (.slice none 0 0)
  try rw [hV]
  have r0 := cOh (w := V.drew) hVx 0
  have r1 := cOh (w := V.drew) hVx 1
  refine bodyPost_ret (v := .tuple #[.pointer (some ⟨B, 0, none⟩), .agg #[.slice none 0 0, .slice none 0 0], .bool false]) (by simp [results, Tryz.results37, go_sem, r0, r1]) rfl ?_
  exact begP_no (((HBG4.out.bel).trans (boC hVc (fun k hk => by have := HSZ.out; rw [mSg.1 hk]; omega) (HBG4.out.bel).size)).drew)
 go_wp2_with fail
 clear u0 u1 z0 z1 zf m0 m1 mf
 go_loopw [32] (fun x wr => ∃ (k : Nat) (F : List Nat) (st : St) (a1 : Option Addr) (n1 c1 : Nat) (a2 : Option Addr) (n2 c2 : Nat), x = .int .i64 k ∧ k ≤ n0 ∧ Hid (Bg w D wr B F (.agg #[.slice a1 n1 c1, .slice a2 n2 c2]) st) ∧ Hid (wr.heap[w.heap.size]? = some (.cells #[.slice a0 n0 c0, .slice a5 n5 c5] 79 (0, 0))) ∧ Hid (wr.heap[b2]? = some (.cells #[.slice none 0 0, .slice none 0 0] 28 (0, 0))) ∧ Hid (wr.heap[b7]? = some (.cells #[.slice a1 n1 c1, .slice a2 n2 c2] 28 (0, 0)))) (fun x _ => n0 - (intOf x).toNat)
 case atStart => exact ⟨0, F0, St.empty, none, 0, 0, none, 0, 0, rfl, Nat.zero_le _, HBG4, G14, G24, G74⟩
 case round =>
  obtain ⟨k, F, st, a1, n1, c1, a2, n2, c2, rfl, hk, hbg, G14, G24, G74⟩ := hrel
  obtain ⟨W0, hW0⟩ : ∃ W, W = wr := ⟨_, rfl⟩
  subst hW0
  by_cases hlt : k < n0
  ·obtain ⟨q, hq⟩ : ∃ q, x.seeds[k]? = some q := ⟨_, gEg (by rw [← HN.out.1]; exact hlt)⟩
   have hsl := HPL.out q (List.mem_of_getElem? hq)
   obtain ⟨bC, oC, S, rfl, hS, q0, q1, q2, q3⟩ := (HP.out.below hbg.out.bel).cells hq
   obtain ⟨s1, hs1⟩ : ∃ y, y = q.2.1 := ⟨_, rfl⟩
   obtain ⟨s2, hs2⟩ : ∃ y, y = q.2.2.1 := ⟨_, rfl⟩
   obtain ⟨s3, hs3⟩ : ∃ y, y = q.2.2.2 := ⟨_, rfl⟩
   rw [← hs1] at q1; rw [← hs2] at q2; rw [← hs3] at q3
   obtain ⟨w5, hw5, hb5, hx5, y1, y2⟩ := aBk W0 #[.string S, .int .i64 s1, .int .i64 s2, .int .i64 s3] 41
   obtain ⟨b9, hb9⟩ : ∃ b, W0.heap.size = b := ⟨_, rfl⟩
   rw [hb9] at hx5
   have hbg5 := hbg.out.below hb5
   have hD9 : ¬ D b9 := fun hd => by have := (hbg.out.low b9 hd).2; omega
   have hF9 : b9 ∉ F := fun hm => by have := hbg.out.stk.lt b9 hm; omega
   have hH := stkseed_any w5 B F st hbg5.stk q hsl
   have hra := fun W F' (hW : Bh w D W B F' (.agg #[.slice a1 n1 c1, .slice a2 n2 c2]) (st.seed q).1 st) => rseed_any W _ _ st hW.ref q hsl (by have := hbg5.stk.few8; omega)
   rw [hS, ← hs1, ← hs2, ← hs3] at hH; simp only [hS, ← hs1, ← hs2, ← hs3] at hra
   obtain ⟨st', hst'⟩ : ∃ s, s = (st.seed q).1 := ⟨_, rfl⟩
   obtain ⟨cd, hcd⟩ : ∃ s, s = (st.seed q).2 := ⟨_, rfl⟩
   rw [← hst', ← hcd] at hH; simp only [← hst', ← hcd] at hra
   have G15 := hdL ((hb5.block _ (loh G14.out)).trans G14.out); have G25 := hdL ((hb5.block _ (loh G24.out)).trans G24.out); have G75 := hdL ((hb5.block _ (loh G74.out)).trans G74.out)
   have G95 := hdL hx5; have HBG5 := hdL hbg5; have HH := hdL hH; have HRA := hdL hra; have HD9 := hdL hD9; have HF9 := hdL hF9
   clear hq hb5 hx5 hbg5 hD9 hF9 hH hra hst' hcd y1 y2 hsl hS hs1 hs2 hs3
   obtain ⟨u0, u1⟩ := cells2 G15.out
   obtain ⟨z0, z1⟩ := cells2 G25.out
   have zf := foh G25.out
   obtain ⟨m0, m1⟩ := cells2 G75.out
   have mf := foh G75.out
   obtain ⟨k0, k1, k2, k3⟩ := cells4 G95.out
   by_cases e4 : 100 < S.size
   ·go_wp2_with fail
    go_region
    go_wp2_with fail
    obtain ⟨V, hV, hVx, hVc⟩ := two_setR (w := w5) G25.out (.slice a1 n1 c1) (.slice a2 n2 c2)
    try rw [hV]
    have r0 := cOh (w := V.drew) hVx 0
    have r1 := cOh (w := V.drew) hVx 1
    refine bodyPost_ret (v := .tuple #[.pointer (some ⟨B, 0, none⟩), .agg #[.slice a1 n1 c1, .slice a2 n2 c2], .bool false]) (by simp [results, Tryz.results37, go_sem, r0, r1]) rfl ?_
    exact begP_no (((HBG5.out.bel).trans (boC hVc (fun k hk => by have := HSZ.out; rw [mSg.1 hk]; omega) (HBG5.out.bel).size)).drew)
   go_wp2_with fail
   refine HH.out.mono ?_
   intro e w6 hs6
   obtain ⟨rfl, hkz, hkf, F', hbh⟩ := Bh.next HBG5.out hs6
   have G16 := hdL (hkf _ _ (fun hm => (HBG5.out.new _ hm).2 D1.out) G15.out); have G26 := hdL (hkf _ _ (fun hm => (HBG5.out.new _ hm).2 D2.out) G25.out); have G76 := hdL (hkf _ _ (fun hm => (HBG5.out.new _ hm).2 D7.out) G75.out); have G96 := hdL (hkf _ _ HF9.out G95.out); have HBH := hdL hbh
   have HR6 := hdL (HRA.out w6 F' hbh)
   clear hs6 hkz hkf hbh u0 u1 z0 z1 zf m0 m1 mf k0 k1 k2 k3
   obtain ⟨u0, u1⟩ := cells2 G16.out
   obtain ⟨z0, z1⟩ := cells2 G26.out
   have zf := foh G26.out
   obtain ⟨m0, m1⟩ := cells2 G76.out
   have mf := foh G76.out
   obtain ⟨k0, k1, k2, k3⟩ := cells4 G96.out
   go_wp2_with fail
   refine HR6.out.mono ?_
   rintro e w7 ⟨v', rfl, href, h7⟩
   obtain ⟨a3, n3, c3, a4, n4, c4, rfl⟩ := refShape href
   obtain ⟨w8, hw8, hb8, hx8, z1', z2'⟩ := aBk w7 #[.slice a3 n3 c3, .slice a4 n4 c4] 28
   obtain ⟨bn, hbn⟩ : ∃ b, w7.heap.size = b := ⟨_, rfl⟩
   rw [hbn] at hx8
   have h68 := h7.trans (hb8.mono h7.size)
   obtain ⟨W, hW, hWx, hWc⟩ := two_setR ((h68.block _ (loh G76.out)).trans G76.out) (.slice a3 n3 c3) (.slice a4 n4 c4)
   have hbgW := HBH.out.mid (href.below hb8) h68 D7.out hWc
   have hne1 : w.heap.size ≠ b7 := by have := HSZ.out; have := HB7.out; omega
   have hne2 : b2 ≠ b7 := by have := HB7.out; omega
   have G1W := hdL ((hWc.block _ (by have := loh G16.out; have := h68.size; omega) (fun hm => hne1 (mSg.1 hm))).trans ((h68.block _ (loh G16.out)).trans G16.out))
   have G2W := hdL ((hWc.block _ (by have := loh G26.out; have := h68.size; omega) (fun hm => hne2 (mSg.1 hm))).trans ((h68.block _ (loh G26.out)).trans G26.out))
   have G7W := hdL hWx; have HBGW := hdL hbgW
   obtain ⟨x0, x1⟩ := cells2 ((h68.block _ (loh G76.out)).trans G76.out)
   have xf := foh ((h68.block _ (loh G76.out)).trans G76.out)
   obtain ⟨p0, p1⟩ := cells2 hx8
   clear href h7 hb8 hx8 h68 hWx hWc hbgW hne1 hne2 z1' z2' u0 u1 z0 z1 zf m0 m1 mf k0 k1 k2 k3
   go_upto_region 13 with fail
   try rw [hW]
   clear x0 x1 xf p0 p1 hW
   go_wp2_with fail
   go_roundw
   case rel => exact ⟨k + 1, F', st', a3, n3, c3, a4, n4, c4, by go_num, hlt, HBGW, G1W, G2W, G7W⟩
   case measure => simp [intOf]; omega
  ·obtain rfl : n0 = k := by omega
   obtain ⟨W1, hW1⟩ : ∃ W, W = W0 := ⟨_, rfl⟩
   subst hW1
   obtain ⟨u0, u1⟩ := cells2 G14.out
   obtain ⟨z0, z1⟩ := cells2 G24.out
   have zf := foh G24.out
   obtain ⟨m0, m1⟩ := cells2 G74.out
   have mf := foh G74.out
   go_wp2_with fail
   clear u0 u1 z0 z1 zf m0 m1 mf
   go_loopw [56] (fun x wr => ∃ (k : Nat) (F : List Nat) (st : St) (a1 : Option Addr) (n1 c1 : Nat) (a2 : Option Addr) (n2 c2 : Nat), x = .int .i64 k ∧ k ≤ n5 ∧ Hid (Bg w D wr B F (.agg #[.slice a1 n1 c1, .slice a2 n2 c2]) st) ∧ Hid (wr.heap[w.heap.size]? = some (.cells #[.slice a0 n0 c0, .slice a5 n5 c5] 79 (0, 0))) ∧ Hid (wr.heap[b2]? = some (.cells #[.slice none 0 0, .slice none 0 0] 28 (0, 0))) ∧ Hid (wr.heap[b7]? = some (.cells #[.slice a1 n1 c1, .slice a2 n2 c2] 28 (0, 0)))) (fun x _ => n5 - (intOf x).toNat)
   case atStart => exact ⟨0, F, st, a1, n1, c1, a2, n2, c2, rfl, Nat.zero_le _, hbg, G14, G24, G74⟩
   case round =>
    obtain ⟨k, F, st, a1, n1, c1, a2, n2, c2, rfl, hk, hbg, G14, G24, G74⟩ := hrel
    obtain ⟨W0, hW0⟩ : ∃ W, W = wr := ⟨_, rfl⟩
    subst hW0
    by_cases hlt : k < n5
    ·obtain ⟨q, hq⟩ : ∃ q, x.recs[k]? = some q := ⟨_, gEg (by rw [← HN.out.2]; exact hlt)⟩
     obtain ⟨bC, oC, R, Q, t1, m1, d1, t2, m2, d2, t3, m3, d3, rfl, hR, hrec, q0, q1, q2, q3, q4, q5, q6, q7⟩ := (HR.out.below hbg.out.bel).cells hq
     have hrec0 : ∃ vs, vs = [(.string R : Value), .int .i64 q.pkg.2.1, .int .i64 q.pkg.2.2.1, .int .i64 q.pkg.2.2.2, .string Q, .slice t1 m1 d1, .slice t2 m2 d2, .slice t3 m3 d3] ∧ RecAt (fun b => b < w.heap.size) W0 vs q := by
      obtain ⟨a', c', e', -, hcs⟩ := HR.out
      obtain ⟨rfl, -, rfl⟩ := Value.slice.inj e'
      obtain ⟨b', o', e2, -, -, hcs2⟩ := hcs (fun e => by rw [e] at hq; cases hq)
      obtain ⟨rfl, rfl⟩ : bC = b' ∧ oC = o' := by injection e2 with e2; injection e2 with e3 e4; exact ⟨e3, e4⟩
      obtain ⟨vs, h1, h2⟩ := hcs2 k q hq
      obtain ⟨s', t', a1', n1', c1', a2', n2', c2', a3', n3', c3', rfl, hs', -⟩ := h1.shape
      have e := fun j u v hj (hv : W0.cell? ⟨bC, oC + k * 8 + j, none⟩ = some v) => sIj ((bkp hbg.out.bel _ _ (h2 j u hj)).symm.trans hv)
      have e0 := e 0 _ _ rfl q0; have e4 := e 4 _ _ rfl q4; have e5 := e 5 _ _ rfl q5; have e6 := e 6 _ _ rfl q6; have e7 := e 7 _ _ rfl q7
      rw [e0, e4, e5, e6, e7] at h1
      exact ⟨_, rfl, h1.old hbg.out.bel⟩
     obtain ⟨_, rfl, hrec⟩ := hrec0
     obtain ⟨r1, hr1⟩ : ∃ y, y = q.pkg.2.1 := ⟨_, rfl⟩
     obtain ⟨r2, hr2⟩ : ∃ y, y = q.pkg.2.2.1 := ⟨_, rfl⟩
     obtain ⟨r3, hr3⟩ : ∃ y, y = q.pkg.2.2.2 := ⟨_, rfl⟩
     rw [← hr1] at q1; rw [← hr2] at q2; rw [← hr3] at q3; rw [← hr1, ← hr2, ← hr3] at hrec
     obtain ⟨w5, hw5, hb5, hx5, y1, y2⟩ := aBk W0 #[.string R, .int .i64 r1, .int .i64 r2, .int .i64 r3, .string Q, .slice t1 m1 d1, .slice t2 m2 d2, .slice t3 m3 d3] 62
     obtain ⟨b9, hb9⟩ : ∃ b, W0.heap.size = b := ⟨_, rfl⟩
     rw [hb9] at hx5
     have hbg5 := hbg.out.below hb5
     have hD9 : ¬ D b9 := fun hd => by have := (hbg.out.low b9 hd).2; omega
     have hF9 : b9 ∉ F := fun hm => by have := hbg.out.stk.lt b9 hm; omega
     have hH := stkaddY_any w5 B F st hbg5.stk _ _ q (hrec.below hb5) (fun b hb hd => by have := (hbg5.low b hd).2; omega)
     have hra := fun W F' (hW : Bh w D W B F' (.agg #[.slice a1 n1 c1, .slice a2 n2 c2]) (st.add q).1 st) (hr : RecAt (fun b => b < w.heap.size) W _ q) => radd_any W _ _ st hW.ref (fun b => b < w.heap.size) [.string R, .int .i64 r1, .int .i64 r2, .int .i64 r3, .string Q, .slice t1 m1 d1, .slice t2 m2 d2, .slice t3 m3 d3] q hr (fun b hl hz => ⟨fun hm => by have h1 := (hW.new b hm).1; have h2 : b < w.heap.size := hz; omega, fun hd => by have h1 := (hW.low b hd).1; have h2 : b < w.heap.size := hz; omega⟩) (by have := hbg5.stk.few8; omega)
     obtain ⟨st', hst'⟩ : ∃ s, s = (st.add q).1 := ⟨_, rfl⟩
     obtain ⟨cd, hcd⟩ : ∃ s, s = (st.add q).2 := ⟨_, rfl⟩
     rw [← hst', ← hcd] at hH; simp only [← hst', ← hcd] at hra
     have G15 := hdL ((hb5.block _ (loh G14.out)).trans G14.out); have G25 := hdL ((hb5.block _ (loh G24.out)).trans G24.out); have G75 := hdL ((hb5.block _ (loh G74.out)).trans G74.out)
     have G95 := hdL hx5; have HBG5 := hdL hbg5; have HH := hdL hH; have HRA := hdL hra; have HD9 := hdL hD9; have HF9 := hdL hF9
     have HREC := hdL (hrec.below hb5)
     clear hq hb5 hx5 hbg5 hD9 hF9 hH hra hst' hcd y1 y2 hR hrec hr1 hr2 hr3
     obtain ⟨u0, u1⟩ := cells2 G15.out
     obtain ⟨z0, z1⟩ := cells2 G25.out
     have zf := foh G25.out
     obtain ⟨m0, m1⟩ := cells2 G75.out
     have mf := foh G75.out
     obtain ⟨k0, k1, k2, k3, k4, k5, k6, k7⟩ := cells8 G95.out
     by_cases e2 : 20 < m2
     ·go_wp2_with fail
      go_region
      go_wp2_with fail
      obtain ⟨V, hV, hVx, hVc⟩ := two_setR (w := w5) G25.out (.slice a1 n1 c1) (.slice a2 n2 c2)
      try rw [hV]
      have r0 := cOh (w := V.drew) hVx 0
      have r1 := cOh (w := V.drew) hVx 1
      refine bodyPost_ret (v := .tuple #[.pointer (some ⟨B, 0, none⟩), .agg #[.slice a1 n1 c1, .slice a2 n2 c2], .bool false]) (by simp [results, Tryz.results37, go_sem, r0, r1]) rfl ?_
      exact begP_no (((HBG5.out.bel).trans (boC hVc (fun k hk => by have := HSZ.out; rw [mSg.1 hk]; omega) (HBG5.out.bel).size)).drew)
     by_cases e3 : 20 < m3
     ·go_wp2_with fail
      go_region
      go_wp2_with fail
      obtain ⟨V, hV, hVx, hVc⟩ := two_setR (w := w5) G25.out (.slice a1 n1 c1) (.slice a2 n2 c2)
      try rw [hV]
      have r0 := cOh (w := V.drew) hVx 0
      have r1 := cOh (w := V.drew) hVx 1
      refine bodyPost_ret (v := .tuple #[.pointer (some ⟨B, 0, none⟩), .agg #[.slice a1 n1 c1, .slice a2 n2 c2], .bool false]) (by simp [results, Tryz.results37, go_sem, r0, r1]) rfl ?_
      exact begP_no (((HBG5.out.bel).trans (boC hVc (fun k hk => by have := HSZ.out; rw [mSg.1 hk]; omega) (HBG5.out.bel).size)).drew)
     by_cases e5 : 100 < R.size
     ·go_wp2_with fail
      go_region
      go_wp2_with fail
      obtain ⟨V, hV, hVx, hVc⟩ := two_setR (w := w5) G25.out (.slice a1 n1 c1) (.slice a2 n2 c2)
      try rw [hV]
      have r0 := cOh (w := V.drew) hVx 0
      have r1 := cOh (w := V.drew) hVx 1
      refine bodyPost_ret (v := .tuple #[.pointer (some ⟨B, 0, none⟩), .agg #[.slice a1 n1 c1, .slice a2 n2 c2], .bool false]) (by simp [results, Tryz.results37, go_sem, r0, r1]) rfl ?_
      exact begP_no (((HBG5.out.bel).trans (boC hVc (fun k hk => by have := HSZ.out; rw [mSg.1 hk]; omega) (HBG5.out.bel).size)).drew)
     go_wp2_with fail
     refine HH.out.mono ?_
     intro e w6 hs6
     obtain ⟨rfl, hkz, hkf, F', hbh⟩ := Bh.next HBG5.out hs6
     have G16 := hdL (hkf _ _ (fun hm => (HBG5.out.new _ hm).2 D1.out) G15.out); have G26 := hdL (hkf _ _ (fun hm => (HBG5.out.new _ hm).2 D2.out) G25.out); have G76 := hdL (hkf _ _ (fun hm => (HBG5.out.new _ hm).2 D7.out) G75.out); have G96 := hdL (hkf _ _ HF9.out G95.out); have HBH := hdL hbh
     have HR6 := hdL (HRA.out w6 F' hbh (HREC.out.keep hkz))
     clear hs6 hkz hkf hbh u0 u1 z0 z1 zf m0 m1 mf k0 k1 k2 k3 k4 k5 k6 k7
     obtain ⟨u0, u1⟩ := cells2 G16.out
     obtain ⟨z0, z1⟩ := cells2 G26.out
     have zf := foh G26.out
     obtain ⟨m0, m1⟩ := cells2 G76.out
     have mf := foh G76.out
     obtain ⟨k0, k1, k2, k3, k4, k5, k6, k7⟩ := cells8 G96.out
     go_wp2_with fail
     refine HR6.out.mono ?_
     rintro e w7 ⟨v', rfl, href, h7⟩
     obtain ⟨a3, n3, c3, a4, n4, c4, rfl⟩ := refShape href
     obtain ⟨w8, hw8, hb8, hx8, z1', z2'⟩ := aBk w7 #[.slice a3 n3 c3, .slice a4 n4 c4] 28
     obtain ⟨bn, hbn⟩ : ∃ b, w7.heap.size = b := ⟨_, rfl⟩
     rw [hbn] at hx8
     have h68 := h7.trans (hb8.mono h7.size)
     obtain ⟨W, hW, hWx, hWc⟩ := two_setR ((h68.block _ (loh G76.out)).trans G76.out) (.slice a3 n3 c3) (.slice a4 n4 c4)
     have hbgW := HBH.out.mid (href.below hb8) h68 D7.out hWc
     have hne1 : w.heap.size ≠ b7 := by have := HSZ.out; have := HB7.out; omega
     have hne2 : b2 ≠ b7 := by have := HB7.out; omega
     have G1W := hdL ((hWc.block _ (by have := loh G16.out; have := h68.size; omega) (fun hm => hne1 (mSg.1 hm))).trans ((h68.block _ (loh G16.out)).trans G16.out))
     have G2W := hdL ((hWc.block _ (by have := loh G26.out; have := h68.size; omega) (fun hm => hne2 (mSg.1 hm))).trans ((h68.block _ (loh G26.out)).trans G26.out))
     have G7W := hdL hWx; have HBGW := hdL hbgW
     obtain ⟨x0, x1⟩ := cells2 ((h68.block _ (loh G76.out)).trans G76.out)
     have xf := foh ((h68.block _ (loh G76.out)).trans G76.out)
     obtain ⟨p0, p1⟩ := cells2 hx8
     clear href h7 hb8 hx8 h68 hWx hWc hbgW hne1 hne2 z1' z2' u0 u1 z0 z1 zf m0 m1 mf k0 k1 k2 k3 k4 k5 k6 k7
     go_upto_region 22 with fail
     try rw [hW]
     clear x0 x1 xf p0 p1 hW
     go_wp2_with fail
     go_roundw
     case rel => exact ⟨k + 1, F', st', a3, n3, c3, a4, n4, c4, by go_num, hlt, HBGW, G1W, G2W, G7W⟩
     case measure => simp [intOf]; omega
    ·obtain rfl : k = n5 := by omega
     obtain ⟨u0, u1⟩ := cells2 G14.out
     obtain ⟨z0, z1⟩ := cells2 G24.out
     have zf := foh G24.out
     obtain ⟨m0, m1⟩ := cells2 G74.out
     have mf := foh G74.out
     go_wp2_with fail
     go_region
     go_wp2_with fail
     obtain ⟨V, hV, hVx, hVc⟩ := two_setR (w := W0) G24.out (.slice a1 n1 c1) (.slice a2 n2 c2)
     try rw [hV]
     have r0 := cOh (w := V.drew) hVx 0
     have r1 := cOh (w := V.drew) hVx 1
     refine bodyPost_ret (v := .tuple #[.pointer (some ⟨B, 0, none⟩), .agg #[.slice a1 n1 c1, .slice a2 n2 c2], .bool true]) (by simp [results, Tryz.results37, go_sem, r0, r1]) rfl ?_
     have hbgV := (hbg.out.write D2.out hVc).below (show Below V.heap.size V V.drew from (Below.refl _ V).drew)
     exact ⟨hbgV.bel, B, a1, n1, c1, a2, n2, c2, true, rfl, fun _ => ⟨st, F, hbgV.beg⟩⟩
end Go.Proofs.YtaagkndhgicifaaGreat
