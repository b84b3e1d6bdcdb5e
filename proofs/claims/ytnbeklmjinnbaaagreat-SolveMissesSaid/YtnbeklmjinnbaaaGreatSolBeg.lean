/- DERIVED. The two stocks and the pool of a case, made. (Printed by a program.) -/
import Derived.Test.YtnbeklmjinnbaaaGreatSv14
namespace Go.Proofs.YtnbeklmjinnbaaaGreat
open Go.RowKit Go.Shelf
set_option linter.unusedVariables false
set_option linter.unusedSimpArgs false
set_option maxRecDepth 100000

/-- What a case's beginning answers. -/
def BegunP (w : World) (e : Ending) (w' : World) : Prop := Below w.heap.size w w' ∧ ∃ (B : Nat) (a1 : Option Addr) (n1 c1 : Nat) (a2 : Option Addr) (n2 c2 : Nat) (ap : Option Addr) (np cp : Nat) (ok : Bool),
  e = .returned (.tuple #[.pointer (some ⟨B, 0, none⟩), .agg #[.slice a1 n1 c1, .slice a2 n2 c2], .slice ap np cp, .bool ok]) ∧
  (ok = true → ∃ (st : St) (pool : List Pk), Two w w' B (.agg #[.slice a1 n1 c1, .slice a2 n2 c2]) st ∧ PkRow w.heap.size w' (.slice ap np cp) pool ∧ pool.length ≤ 200)
theorem begunP_no {w w' : World} {B : Nat} {a1 : Option Addr} {n1 c1 : Nat} {a2 : Option Addr} {n2 c2 : Nat} (h : Below w.heap.size w w') : BegunP w (.returned (.tuple #[.pointer (some ⟨B, 0, none⟩), .agg #[.slice a1 n1 c1, .slice a2 n2 c2], .slice none 0 0, .bool false])) w' :=
  ⟨h, B, a1, n1, c1, a2, n2, c2, none, 0, 0, false, rfl, fun h => by cases h⟩
theorem refShape {Z : Zone} {w : World} {v : Value} {st : St} (h : RefAt Z w v st) : ∃ (a1 : Option Addr) (n1 c1 : Nat) (a2 : Option Addr) (n2 c2 : Nat), v = .agg #[.slice a1 n1 c1, .slice a2 n2 c2] := by
  obtain ⟨a1, c1, a2, c2, rfl, -⟩ := h.form
  exact ⟨a1, _, c1, a2, _, c2, rfl⟩
theorem allLen {st : St} (h : st.seeds.length ≤ 8 ∧ st.recs.length ≤ 32) : st.all.length ≤ 40 := by
  have := all_len st
  omega
theorem callsAt_cells {w : World} {a : Option Addr} {n c k : Nat} {cs : List Cl} {q : Cl} (h : CallsAt w (.slice a n c) cs) (hk : cs[k]? = some q) :
    ∃ b o vs, a = some ⟨b, o, none⟩ ∧ ClC w q vs ∧ ∀ j u, vs[j]? = some u → w.cell? ⟨b, o + k * 13 + j, none⟩ = some u := by
  obtain ⟨a', c', e, -, -, h⟩ := h
  obtain ⟨rfl, -, rfl⟩ := Value.slice.inj e
  obtain ⟨b, o, rfl, -, hc⟩ := h (fun e => by subst e; cases hk)
  obtain ⟨vs, h1, h2⟩ := hc k q hk
  exact ⟨b, o, vs, rfl, h1, h2⟩
theorem intsAt_cells {w : World} {a : Option Addr} {n c k : Nat} {ns : List Int} {q : Int} (h : IntsAt w (.slice a n c) ns) (hk : ns[k]? = some q) : ∃ b o, a = some ⟨b, o, none⟩ ∧ w.cell? ⟨b, o + k, none⟩ = some (.int .i64 q) := by
  obtain ⟨a', c', e, -, -, h⟩ := h
  obtain ⟨rfl, -, rfl⟩ := Value.slice.inj e
  obtain ⟨b, o, rfl, -, hc⟩ := h (fun e => by subst e; cases hk)
  exact ⟨b, o, rfl, hc k q hk⟩
set_option maxHeartbeats 32000000 in
theorem begun_any (w : World) (cs : List Value) (x : Cs) (hx : CaseAt w cs x) : Calls Tryz.prog 9 #[.agg cs.toArray] w (BegunP w) := by
  obtain ⟨v0, v1, v2, rfl, hsc, hpl, hle, hmo, hmn, hlw⟩ := hx
  have hsc' := hsc
  obtain ⟨a0, c0, rfl, hs1, hs2, -⟩ := hsc'
  have hle' := hle
  obtain ⟨a5, c5, rfl, hl1, hl2, -⟩ := hle'
  have hmo' := hmo
  obtain ⟨a6, c6, rfl, hm1, -⟩ := hmo'
  show Calls _ _ #[.agg #[.slice a0 x.script.length c0, strV x.p.1, .int .i64 x.p.2.1, .int .i64 x.p.2.2.1, .int .i64 x.p.2.2.2, .slice a5 x.less.length c5, .slice a6 x.more.length c6, .int .i64 x.left]] _ _
  obtain ⟨T, -, hT, -, -⟩ := strV_is x.p.1
  rw [hT]
  obtain ⟨n0, hn0⟩ : ∃ y, y = x.script.length := ⟨_, rfl⟩
  obtain ⟨n5, hn5⟩ : ∃ y, y = x.less.length := ⟨_, rfl⟩
  obtain ⟨n6, hn6⟩ : ∃ y, y = x.more.length := ⟨_, rfl⟩
  obtain ⟨p1, hp1⟩ : ∃ y, y = x.p.2.1 := ⟨_, rfl⟩
  obtain ⟨p2, hp2⟩ : ∃ y, y = x.p.2.2.1 := ⟨_, rfl⟩
  obtain ⟨p3, hp3⟩ : ∃ y, y = x.p.2.2.2 := ⟨_, rfl⟩
  obtain ⟨lf, hlf⟩ : ∃ y, y = x.left := ⟨_, rfl⟩
  rw [← hn0] at hsc hs1 ⊢; rw [← hn5] at hle hl1 ⊢; rw [← hn6] at hmo ⊢; rw [← hp1, ← hp2, ← hp3, ← hlf]
  obtain ⟨w0, hw0, hb0, hx0, y1, y2⟩ := any_block w #[.slice a0 n0 c0, .string T, .int .i64 p1, .int .i64 p2, .int .i64 p3, .slice a5 n5 c5, .slice a6 n6 c6, .int .i64 lf] 30
  obtain ⟨w1, hw1, hb1, hx1, y3, y4⟩ := zero2R w0 35
  obtain ⟨b2, hb2⟩ : ∃ b, w0.heap.size = b := ⟨_, rfl⟩
  have hb01 := hb0.trans (hb1.mono hb0.size)
  have g1 := (hb1.block _ (by omega)).trans hx0
  rw [hb2] at hx1
  have hnew := stknewY_any (fun b => b ≠ w.heap.size ∧ b ≠ b2) w1
  obtain ⟨iP, hiP, hzP0, hzP1, hzP2⟩ := info_parts infoPkg
  have HI := Lib.hid (And.intro hiP (And.intro hzP0 (And.intro hzP1 hzP2)))
  have HB1 := Lib.hid hb01; have G11 := Lib.hid g1; have G21 := Lib.hid hx1; have HNEW := Lib.hid hnew; have HSC := Lib.hid hsc; have HLE := Lib.hid hle; have HMO := Lib.hid hmo; have HN := Lib.hid (And.intro hn0 (And.intro hn5 hn6)); have HS1 := Lib.hid hs1; have HL1 := Lib.hid hl1; have HM1 := Lib.hid hm1; have HSZ := Lib.hid (show w1.heap.size = w.heap.size + 2 ∧ b2 = w.heap.size + 1 from by omega)
  clear hsc hle hmo hmn hlw hpl hs1 hs2 hl1 hl2 hm1 hT hn0 hn5 hn6 hp1 hp2 hp3 hlf hb0 hb1 hb01 g1 hx0 hx1 hnew hiP hzP0 hzP1 hzP2 y1 y2 y3 y4
  go_enter Tryz.func9, Tryz.ntmps9
  go_wp2_with fail
  refine HNEW.out.mono ?_
  rintro e w2 ⟨B, F0, rfl, hst, hF0, h2⟩
  obtain ⟨w3, hw3, hb3, hx3, y1, y2⟩ := zero2R w2 35
  obtain ⟨b7, hb7⟩ : ∃ b, w2.heap.size = b := ⟨_, rfl⟩
  rw [hb7] at hx3
  have h23 := h2.trans (hb3.mono h2.size)
  obtain ⟨D, hD⟩ : ∃ D : Nat → Prop, D = (fun b : Nat => b = w.heap.size ∨ b = b2 ∨ b = b7) := ⟨_, rfl⟩
  have hbg : Bg w D w3 B F0 (.agg #[.slice none 0 0, .slice none 0 0]) St.empty := by
    have hlt := hst.lt
    have hsz := HSZ.out
    have hs2 := h2.size
    refine ⟨hst.keepF (Nat.le_of_lt (by omega)) (fun b hl hb hd => ?_) (fun b hl _ => hb3.block b hl), fun b hb => ⟨?_, fun hd => ?_⟩, RefAt.empty, fun b hd => ?_, HB1.out.trans (h23.mono HB1.out.size)⟩
    · rw [hD] at hd; obtain ⟨g1, g2⟩ := hb; omega
    · have := hF0 b hb; omega
    · have h1 := hF0 b hb; have h2 := hlt b hb; rw [hD] at hd; omega
    · rw [hD] at hd; omega
  have d1 : D w.heap.size := by rw [hD]; exact .inl rfl
  have d2 : D b2 := by rw [hD]; exact .inr (.inl rfl)
  have d7 : D b7 := by rw [hD]; exact .inr (.inr rfl)
  have G13 := Lib.hid ((h23.block _ (lt_of_heap G11.out)).trans G11.out); have G23 := Lib.hid ((h23.block _ (lt_of_heap G21.out)).trans G21.out)
  have HB7 := Lib.hid (show b2 < b7 from by have h1 := HSZ.out; have h2 := h2.size; omega); have G73 := Lib.hid hx3; have HBG := Lib.hid hbg; have HD := Lib.hid hD; have D1 := Lib.hid d1; have D2 := Lib.hid d2; have D7 := Lib.hid d7
  clear h2 hb3 hx3 h23 hst hF0 hbg hD d1 d2 d7 y1 y2
  obtain ⟨V3, hV3, hx4, hc4⟩ := two_setR G73.out (.slice none 0 0) (.slice none 0 0)
  have m0 := cell_of_heap G73.out 0
  have m1 := cell_of_heap G73.out 1
  have mf := frozen_of_heap G73.out
  go_upto_region 3 with fail
  try rw [hV3]
  have hbg4 := HBG.out.write D7.out hc4
  have G14 := Lib.hid ((hc4.block _ (lt_of_heap G13.out) (fun hm => by have := List.mem_singleton.1 hm; have := HSZ.out; have := HB7.out; omega)).trans G13.out); have G24 := Lib.hid ((hc4.block _ (lt_of_heap G23.out) (fun hm => by have := List.mem_singleton.1 hm; have := HSZ.out; have := HB7.out; omega)).trans G23.out); have G74 := Lib.hid hx4; have HBG4 := Lib.hid hbg4
  clear hV3 hx4 hc4 hbg4 m0 m1 mf
  have u0 := cell_of_heap G14.out 0
  have u1 := cell_of_heap G14.out 1
  have u2 := cell_of_heap G14.out 2
  have u3 := cell_of_heap G14.out 3
  have u4 := cell_of_heap G14.out 4
  have u5 := cell_of_heap G14.out 5
  have u6 := cell_of_heap G14.out 6
  have u7 := cell_of_heap G14.out 7
  have z0 := cell_of_heap G24.out 0
  have z1 := cell_of_heap G24.out 1
  have zf := frozen_of_heap G24.out
  have m0 := cell_of_heap G74.out 0
  have m1 := cell_of_heap G74.out 1
  by_cases k0 : 45 < n0
  · go_wp2_with fail
    go_region
    go_wp2_with fail
    obtain ⟨V, hV, hVx, hVc⟩ := two_setR (w := V3) G24.out (.slice none 0 0) (.slice none 0 0)
    try rw [hV]
    have r0 := cell_of_heap (w := V.drew) hVx 0
    have r1 := cell_of_heap (w := V.drew) hVx 1
    refine bodyPost_ret (v := .tuple #[.pointer (some ⟨B, 0, none⟩), .agg #[.slice none 0 0, .slice none 0 0], .slice none 0 0, .bool false]) (by simp [results, Tryz.results9, go_sem, r0, r1]) rfl ?_
    exact begunP_no (((HBG4.out.bel).trans (below_of_ch hVc (fun k hk => by have := HSZ.out; rw [List.mem_singleton.1 hk]; omega) (HBG4.out.bel).size)).drew)
  by_cases k5 : 100 < n5
  · go_wp2_with fail
    go_region
    go_wp2_with fail
    obtain ⟨V, hV, hVx, hVc⟩ := two_setR (w := V3) G24.out (.slice none 0 0) (.slice none 0 0)
    try rw [hV]
    have r0 := cell_of_heap (w := V.drew) hVx 0
    have r1 := cell_of_heap (w := V.drew) hVx 1
    refine bodyPost_ret (v := .tuple #[.pointer (some ⟨B, 0, none⟩), .agg #[.slice none 0 0, .slice none 0 0], .slice none 0 0, .bool false]) (by simp [results, Tryz.results9, go_sem, r0, r1]) rfl ?_
    exact begunP_no (((HBG4.out.bel).trans (below_of_ch hVc (fun k hk => by have := HSZ.out; rw [List.mem_singleton.1 hk]; omega) (HBG4.out.bel).size)).drew)
  by_cases k6 : 100 < n6
  · go_wp2_with fail
    go_region
    go_wp2_with fail
    obtain ⟨V, hV, hVx, hVc⟩ := two_setR (w := V3) G24.out (.slice none 0 0) (.slice none 0 0)
    try rw [hV]
    have r0 := cell_of_heap (w := V.drew) hVx 0
    have r1 := cell_of_heap (w := V.drew) hVx 1
    refine bodyPost_ret (v := .tuple #[.pointer (some ⟨B, 0, none⟩), .agg #[.slice none 0 0, .slice none 0 0], .slice none 0 0, .bool false]) (by simp [results, Tryz.results9, go_sem, r0, r1]) rfl ?_
    exact begunP_no (((HBG4.out.bel).trans (below_of_ch hVc (fun k hk => by have := HSZ.out; rw [List.mem_singleton.1 hk]; omega) (HBG4.out.bel).size)).drew)
  go_wp2_with fail
  clear u0 u1 u2 u3 u4 u5 u6 u7 z0 z1 zf m0 m1
  go_loopw [40] (fun x wr => ∃ (k : Nat) (F : List Nat) (st : St) (a1 : Option Addr) (n1 c1 : Nat) (a2 : Option Addr) (n2 c2 : Nat), x = .int .i64 k ∧ k ≤ n0 ∧ Hid (Bg w D wr B F (.agg #[.slice a1 n1 c1, .slice a2 n2 c2]) st) ∧ Hid (wr.heap[w.heap.size]? = some (.cells #[.slice a0 n0 c0, .string T, .int .i64 p1, .int .i64 p2, .int .i64 p3, .slice a5 n5 c5, .slice a6 n6 c6, .int .i64 lf] 30 (0, 0))) ∧ Hid (wr.heap[b2]? = some (.cells #[.slice none 0 0, .slice none 0 0] 35 (0, 0))) ∧ Hid (wr.heap[b7]? = some (.cells #[.slice a1 n1 c1, .slice a2 n2 c2] 35 (0, 0)))) (fun x _ => n0 - (intOf x).toNat)
  case atStart => exact ⟨0, F0, St.empty, none, 0, 0, none, 0, 0, rfl, Nat.zero_le _, HBG4, G14, G24, G74⟩
  case round =>
    obtain ⟨k, F, st, a1, n1, c1, a2, n2, c2, rfl, hk, hbg, G14, G24, G74⟩ := hrel
    by_cases hlt : k < n0
    · obtain ⟨q, hq⟩ : ∃ q, x.script[k]? = some q := ⟨_, List.getElem?_eq_getElem (by rw [← HN.out.1]; exact hlt)⟩
      obtain ⟨bC, oC, vs, rfl, ⟨vr, rfl, hsl, hrec⟩, hcc⟩ := callsAt_cells HSC.out hq
      obtain ⟨R, Q, t1, m1, d1, t2, m2, d2, t3, m3, d3, rfl, hR, hrl, -⟩ := hrec.shape
      obtain ⟨S, -, hS, -, -⟩ := strV_is q.seed.1
      have hkb := fun j u hj => below_keeps hbg.out.bel _ _ (hcc j u hj)
      have q0 := hkb 0 (.bool q.add) rfl
      have q1 := hkb 1 (strV q.seed.1) rfl
      have q2 := hkb 2 (.int .i64 q.seed.2.1) rfl
      have q3 := hkb 3 (.int .i64 q.seed.2.2.1) rfl
      have q4 := hkb 4 (.int .i64 q.seed.2.2.2) rfl
      have q5 := hkb 5 (.string R) rfl
      have q6 := hkb 6 (.int .i64 q.recp.pkg.2.1) rfl
      have q7 := hkb 7 (.int .i64 q.recp.pkg.2.2.1) rfl
      have q8 := hkb 8 (.int .i64 q.recp.pkg.2.2.2) rfl
      have q9 := hkb 9 (.string Q) rfl
      have q10 := hkb 10 (.slice t1 m1 d1) rfl
      have q11 := hkb 11 (.slice t2 m2 d2) rfl
      have q12 := hkb 12 (.slice t3 m3 d3) rfl
      rw [hS] at q1
      simp only [Nat.add_zero] at q0
      obtain ⟨ad, had⟩ : ∃ y, y = q.add := ⟨_, rfl⟩
      obtain ⟨s1, hs1⟩ : ∃ y, y = q.seed.2.1 := ⟨_, rfl⟩
      obtain ⟨s2, hs2⟩ : ∃ y, y = q.seed.2.2.1 := ⟨_, rfl⟩
      obtain ⟨s3, hs3⟩ : ∃ y, y = q.seed.2.2.2 := ⟨_, rfl⟩
      obtain ⟨r1, hr1⟩ : ∃ y, y = q.recp.pkg.2.1 := ⟨_, rfl⟩
      obtain ⟨r2, hr2⟩ : ∃ y, y = q.recp.pkg.2.2.1 := ⟨_, rfl⟩
      obtain ⟨r3, hr3⟩ : ∃ y, y = q.recp.pkg.2.2.2 := ⟨_, rfl⟩
      rw [← had] at q0; rw [← hs1] at q2; rw [← hs2] at q3; rw [← hs3] at q4; rw [← hr1] at q6; rw [← hr2] at q7; rw [← hr3] at q8
      obtain ⟨w5, hw5, hb5, hx5, y1, y2⟩ := any_block wr #[.bool ad, .string S, .int .i64 s1, .int .i64 s2, .int .i64 s3, .string R, .int .i64 r1, .int .i64 r2, .int .i64 r3, .string Q, .slice t1 m1 d1, .slice t2 m2 d2, .slice t3 m3 d3] 69
      obtain ⟨b9, hb9⟩ : ∃ b, wr.heap.size = b := ⟨_, rfl⟩
      rw [hb9] at hx5
      have hbg5 := hbg.out.below hb5
      have hD9 : ¬ D b9 := fun hd => by have := (hbg.out.low b9 hd).2; omega
      have hradd := radd_any w5 _ _ st hbg5.ref (fun b => b < w.heap.size) _ q.recp (hrec.old hbg5.bel) (fun b hl hz => ⟨fun hm => by have := (hbg5.new b hm).1; omega, fun hd => by have := (hbg5.low b hd).1; omega⟩) (by have := hbg5.stk.few8; omega)
      have hrseed := rseed_any w5 _ _ st hbg5.ref q.seed hsl (by have := hbg5.stk.few8; omega)
      rw [hS, ← hs1, ← hs2, ← hs3] at hrseed
      rw [← hr1, ← hr2, ← hr3] at hradd
      have hsadd := fun W (hW : StkAtY (fun b => ¬ D b) W B F st) (hb : Below w.heap.size w W) (hl : ∀ b, D b → b < W.heap.size) => stkaddY_any W B F st hW _ _ q.recp (hrec.below hb) (fun b hb hd => by have := hl b hd; omega)
      have hsseed := fun W (hW : StkAtY (fun b => ¬ D b) W B F st) => stkseed_any W B F st hW q.seed hsl
      rw [hS, ← hs1, ← hs2, ← hs3] at hsseed
      rw [← hr1, ← hr2, ← hr3] at hsadd
      have G15 := Lib.hid ((hb5.block _ (lt_of_heap G14.out)).trans G14.out); have G25 := Lib.hid ((hb5.block _ (lt_of_heap G24.out)).trans G24.out); have G75 := Lib.hid ((hb5.block _ (lt_of_heap G74.out)).trans G74.out)
      have G95 := Lib.hid hx5; have HBG5 := Lib.hid hbg5; have HRA := Lib.hid hradd; have HRS := Lib.hid hrseed; have HSA := Lib.hid hsadd; have HSS := Lib.hid hsseed; have HD9 := Lib.hid hD9
      clear hq hcc hsl hrec hR hrl hS hkb had hs1 hs2 hs3 hr1 hr2 hr3 hb5 hx5 hbg5 hD9 hradd hrseed hsadd hsseed y1 y2
      have z0 := cell_of_heap G25.out 0
      have z1 := cell_of_heap G25.out 1
      have zf := frozen_of_heap G25.out
      have m0 := cell_of_heap G75.out 0
      have m1 := cell_of_heap G75.out 1
      have mf := frozen_of_heap G75.out
      have k0 := cell_of_heap G95.out 0
      have k1 := cell_of_heap G95.out 1
      have k2 := cell_of_heap G95.out 2
      have k3 := cell_of_heap G95.out 3
      have k4 := cell_of_heap G95.out 4
      have k5 := cell_of_heap G95.out 5
      have k6 := cell_of_heap G95.out 6
      have k7 := cell_of_heap G95.out 7
      have k8 := cell_of_heap G95.out 8
      have k9 := cell_of_heap G95.out 9
      have k10 := cell_of_heap G95.out 10
      have k11 := cell_of_heap G95.out 11
      have k12 := cell_of_heap G95.out 12
      by_cases e2 : 20 < m2
      · go_wp2_with fail
        go_region
        go_wp2_with fail
        obtain ⟨V, hV, hVx, hVc⟩ := two_setR (w := w5) G25.out (.slice a1 n1 c1) (.slice a2 n2 c2)
        try rw [hV]
        have r0 := cell_of_heap (w := V.drew) hVx 0
        have r1 := cell_of_heap (w := V.drew) hVx 1
        refine bodyPost_ret (v := .tuple #[.pointer (some ⟨B, 0, none⟩), .agg #[.slice a1 n1 c1, .slice a2 n2 c2], .slice none 0 0, .bool false]) (by simp [results, Tryz.results9, go_sem, r0, r1]) rfl ?_
        exact begunP_no (((HBG5.out.bel).trans (below_of_ch hVc (fun k hk => by have := HSZ.out; rw [List.mem_singleton.1 hk]; omega) (HBG5.out.bel).size)).drew)
      by_cases e3 : 20 < m3
      · go_wp2_with fail
        go_region
        go_wp2_with fail
        obtain ⟨V, hV, hVx, hVc⟩ := two_setR (w := w5) G25.out (.slice a1 n1 c1) (.slice a2 n2 c2)
        try rw [hV]
        have r0 := cell_of_heap (w := V.drew) hVx 0
        have r1 := cell_of_heap (w := V.drew) hVx 1
        refine bodyPost_ret (v := .tuple #[.pointer (some ⟨B, 0, none⟩), .agg #[.slice a1 n1 c1, .slice a2 n2 c2], .slice none 0 0, .bool false]) (by simp [results, Tryz.results9, go_sem, r0, r1]) rfl ?_
        exact begunP_no (((HBG5.out.bel).trans (below_of_ch hVc (fun k hk => by have := HSZ.out; rw [List.mem_singleton.1 hk]; omega) (HBG5.out.bel).size)).drew)
      by_cases e4 : 100 < S.size
      · go_wp2_with fail
        go_region
        go_wp2_with fail
        obtain ⟨V, hV, hVx, hVc⟩ := two_setR (w := w5) G25.out (.slice a1 n1 c1) (.slice a2 n2 c2)
        try rw [hV]
        have r0 := cell_of_heap (w := V.drew) hVx 0
        have r1 := cell_of_heap (w := V.drew) hVx 1
        refine bodyPost_ret (v := .tuple #[.pointer (some ⟨B, 0, none⟩), .agg #[.slice a1 n1 c1, .slice a2 n2 c2], .slice none 0 0, .bool false]) (by simp [results, Tryz.results9, go_sem, r0, r1]) rfl ?_
        exact begunP_no (((HBG5.out.bel).trans (below_of_ch hVc (fun k hk => by have := HSZ.out; rw [List.mem_singleton.1 hk]; omega) (HBG5.out.bel).size)).drew)
      by_cases e5 : 100 < R.size
      · go_wp2_with fail
        go_region
        go_wp2_with fail
        obtain ⟨V, hV, hVx, hVc⟩ := two_setR (w := w5) G25.out (.slice a1 n1 c1) (.slice a2 n2 c2)
        try rw [hV]
        have r0 := cell_of_heap (w := V.drew) hVx 0
        have r1 := cell_of_heap (w := V.drew) hVx 1
        refine bodyPost_ret (v := .tuple #[.pointer (some ⟨B, 0, none⟩), .agg #[.slice a1 n1 c1, .slice a2 n2 c2], .slice none 0 0, .bool false]) (by simp [results, Tryz.results9, go_sem, r0, r1]) rfl ?_
        exact begunP_no (((HBG5.out.bel).trans (below_of_ch hVc (fun k hk => by have := HSZ.out; rw [List.mem_singleton.1 hk]; omega) (HBG5.out.bel).size)).drew)
      cases ad
      · obtain ⟨st', hst'⟩ : ∃ s, s = (st.seed q.seed).1 := ⟨_, rfl⟩
        obtain ⟨cd, hcd⟩ : ∃ s, s = (st.seed q.seed).2 := ⟨_, rfl⟩
        rw [← hst', ← hcd] at HRS
        have hsa := fun W h1 => HSS.out W h1
        rw [← hst', ← hcd] at hsa
        have HSX := Lib.hid hsa
        clear hsa hst' hcd
        go_wp2_with fail
        refine HRS.out.mono ?_
        rintro e w6 ⟨v', rfl, href, h6⟩
        obtain ⟨a3, n3, c3, a4, n4, c4, rfl⟩ := refShape href
        obtain ⟨W, hW, hWx, hWc⟩ := two_setR ((h6.block _ (lt_of_heap G75.out)).trans G75.out) (.slice a3 n3 c3) (.slice a4 n4 c4)
        obtain ⟨j1, j2, j3⟩ := HBG5.out.mid href h6 D7.out hWc
        have hlow : ∀ b, D b → w.heap.size ≤ b ∧ b < W.heap.size := fun b hd => ⟨(HBG5.out.low b hd).1, Nat.lt_of_lt_of_le (HBG5.out.low b hd).2 (Nat.le_trans h6.size hWc.size)⟩
        have G17 := Lib.hid ((hWc.block _ (by have := lt_of_heap G15.out; have := h6.size; omega) (fun hm => by have := List.mem_singleton.1 hm; have := HSZ.out; have := HB7.out; omega)).trans ((h6.block _ (lt_of_heap G15.out)).trans G15.out))
        have G27 := Lib.hid ((hWc.block _ (by have := lt_of_heap G25.out; have := h6.size; omega) (fun hm => by have := List.mem_singleton.1 hm; have := HSZ.out; have := HB7.out; omega)).trans ((h6.block _ (lt_of_heap G25.out)).trans G25.out))
        have G97 := Lib.hid ((hWc.block _ (by have := lt_of_heap G95.out; have := h6.size; omega) (fun hm => HD9.out (by rw [List.mem_singleton.1 hm]; exact D7.out))).trans ((h6.block _ (lt_of_heap G95.out)).trans G95.out))
        have G77 := Lib.hid hWx; have J1 := Lib.hid j1; have J2 := Lib.hid j2; have J3 := Lib.hid j3; have HLOW := Lib.hid hlow
        have hsc := HSX.out W j1
        have HSC2 := Lib.hid hsc
        have x0 := cell_of_heap ((h6.block _ (lt_of_heap G75.out)).trans G75.out) 0
        have x1 := cell_of_heap ((h6.block _ (lt_of_heap G75.out)).trans G75.out) 1
        have xf := frozen_of_heap ((h6.block _ (lt_of_heap G75.out)).trans G75.out)
        clear href h6 hWx hWc j1 j2 j3 hlow hsc z0 z1 zf m0 m1 mf k0 k1 k2 k3 k4 k5 k6 k7 k8 k9 k10 k11 k12
        go_upto_region 16 with fail
        try rw [hW]
        clear x0 x1 xf hW
        have z0 := cell_of_heap G27.out 0
        have z1 := cell_of_heap G27.out 1
        have zf := frozen_of_heap G27.out
        have m0 := cell_of_heap G77.out 0
        have m1 := cell_of_heap G77.out 1
        have mf := frozen_of_heap G77.out
        have k0 := cell_of_heap G97.out 0
        have k1 := cell_of_heap G97.out 1
        have k2 := cell_of_heap G97.out 2
        have k3 := cell_of_heap G97.out 3
        have k4 := cell_of_heap G97.out 4
        have k5 := cell_of_heap G97.out 5
        have k6 := cell_of_heap G97.out 6
        have k7 := cell_of_heap G97.out 7
        have k8 := cell_of_heap G97.out 8
        have k9 := cell_of_heap G97.out 9
        have k10 := cell_of_heap G97.out 10
        have k11 := cell_of_heap G97.out 11
        have k12 := cell_of_heap G97.out 12
        go_wp2_with fail
        refine HSC2.out.mono ?_
        intro e w8 hs8
        obtain ⟨rfl, ⟨F', hbg8⟩, hkeep⟩ := Bg.next J1.out J2.out J3.out HBG5.out.new HLOW.out hs8
        have HBG8 := Lib.hid hbg8; have G18 := Lib.hid (hkeep _ _ D1.out G17.out); have G28 := Lib.hid (hkeep _ _ D2.out G27.out); have G78 := Lib.hid (hkeep _ _ D7.out G77.out)
        clear hs8 hbg8 hkeep z0 z1 zf m0 m1 mf k0 k1 k2 k3 k4 k5 k6 k7 k8 k9 k10 k11 k12
        have hcc : ((cd : Int) == cd) = true := by simp
        go_wp2_with fail
        go_roundw
        case rel => exact ⟨k + 1, F', st', a3, n3, c3, a4, n4, c4, by go_num, hlt, HBG8, G18, G28, G78⟩
        case measure => simp [intOf]; omega
      · obtain ⟨st', hst'⟩ : ∃ s, s = (st.add q.recp).1 := ⟨_, rfl⟩
        obtain ⟨cd, hcd⟩ : ∃ s, s = (st.add q.recp).2 := ⟨_, rfl⟩
        rw [← hst', ← hcd] at HRA
        have hsa := fun W h1 h2 h3 => HSA.out W h1 h2 h3
        rw [← hst', ← hcd] at hsa
        have HSX := Lib.hid hsa
        clear hsa hst' hcd
        go_wp2_with fail
        refine HRA.out.mono ?_
        rintro e w6 ⟨v', rfl, href, h6⟩
        obtain ⟨a3, n3, c3, a4, n4, c4, rfl⟩ := refShape href
        obtain ⟨W, hW, hWx, hWc⟩ := two_setR ((h6.block _ (lt_of_heap G75.out)).trans G75.out) (.slice a3 n3 c3) (.slice a4 n4 c4)
        obtain ⟨j1, j2, j3⟩ := HBG5.out.mid href h6 D7.out hWc
        have hlow : ∀ b, D b → w.heap.size ≤ b ∧ b < W.heap.size := fun b hd => ⟨(HBG5.out.low b hd).1, Nat.lt_of_lt_of_le (HBG5.out.low b hd).2 (Nat.le_trans h6.size hWc.size)⟩
        have G17 := Lib.hid ((hWc.block _ (by have := lt_of_heap G15.out; have := h6.size; omega) (fun hm => by have := List.mem_singleton.1 hm; have := HSZ.out; have := HB7.out; omega)).trans ((h6.block _ (lt_of_heap G15.out)).trans G15.out))
        have G27 := Lib.hid ((hWc.block _ (by have := lt_of_heap G25.out; have := h6.size; omega) (fun hm => by have := List.mem_singleton.1 hm; have := HSZ.out; have := HB7.out; omega)).trans ((h6.block _ (lt_of_heap G25.out)).trans G25.out))
        have G97 := Lib.hid ((hWc.block _ (by have := lt_of_heap G95.out; have := h6.size; omega) (fun hm => HD9.out (by rw [List.mem_singleton.1 hm]; exact D7.out))).trans ((h6.block _ (lt_of_heap G95.out)).trans G95.out))
        have G77 := Lib.hid hWx; have J1 := Lib.hid j1; have J2 := Lib.hid j2; have J3 := Lib.hid j3; have HLOW := Lib.hid hlow
        have hsc := HSX.out W j1 j3 (fun b hd => (hlow b hd).2)
        have HSC2 := Lib.hid hsc
        have x0 := cell_of_heap ((h6.block _ (lt_of_heap G75.out)).trans G75.out) 0
        have x1 := cell_of_heap ((h6.block _ (lt_of_heap G75.out)).trans G75.out) 1
        have xf := frozen_of_heap ((h6.block _ (lt_of_heap G75.out)).trans G75.out)
        clear href h6 hWx hWc j1 j2 j3 hlow hsc z0 z1 zf m0 m1 mf k0 k1 k2 k3 k4 k5 k6 k7 k8 k9 k10 k11 k12
        go_upto_region 13 with fail
        try rw [hW]
        clear x0 x1 xf hW
        have z0 := cell_of_heap G27.out 0
        have z1 := cell_of_heap G27.out 1
        have zf := frozen_of_heap G27.out
        have m0 := cell_of_heap G77.out 0
        have m1 := cell_of_heap G77.out 1
        have mf := frozen_of_heap G77.out
        have k0 := cell_of_heap G97.out 0
        have k1 := cell_of_heap G97.out 1
        have k2 := cell_of_heap G97.out 2
        have k3 := cell_of_heap G97.out 3
        have k4 := cell_of_heap G97.out 4
        have k5 := cell_of_heap G97.out 5
        have k6 := cell_of_heap G97.out 6
        have k7 := cell_of_heap G97.out 7
        have k8 := cell_of_heap G97.out 8
        have k9 := cell_of_heap G97.out 9
        have k10 := cell_of_heap G97.out 10
        have k11 := cell_of_heap G97.out 11
        have k12 := cell_of_heap G97.out 12
        go_wp2_with fail
        refine HSC2.out.mono ?_
        intro e w8 hs8
        obtain ⟨rfl, ⟨F', hbg8⟩, hkeep⟩ := Bg.next J1.out J2.out J3.out HBG5.out.new HLOW.out hs8
        have HBG8 := Lib.hid hbg8; have G18 := Lib.hid (hkeep _ _ D1.out G17.out); have G28 := Lib.hid (hkeep _ _ D2.out G27.out); have G78 := Lib.hid (hkeep _ _ D7.out G77.out)
        clear hs8 hbg8 hkeep z0 z1 zf m0 m1 mf k0 k1 k2 k3 k4 k5 k6 k7 k8 k9 k10 k11 k12
        have hcc : ((cd : Int) == cd) = true := by simp
        go_wp2_with fail
        go_roundw
        case rel => exact ⟨k + 1, F', st', a3, n3, c3, a4, n4, c4, by go_num, hlt, HBG8, G18, G28, G78⟩
        case measure => simp [intOf]; omega
    · obtain rfl : k = n0 := by omega
      obtain ⟨W0, hW0⟩ : ∃ W0, W0 = wr := ⟨wr, rfl⟩
      subst hW0
      have hsrc : Src Tryz.prog 4 28 (.slice a6 n6 c6) n6 (x.more.flatMap pkL) W0 := by
        have h1 := (HMO.out.below hbg.out.bel).src
        rw [← HN.out.2.2] at h1
        exact h1
      obtain ⟨wE, hwE, hbE, hxE, y1, y2⟩ := any_block W0 #[] 26
      obtain ⟨gE, hgE⟩ : ∃ b, W0.heap.size = b := ⟨_, rfl⟩
      rw [hgE] at hxE
      have hemp := owns_emptyR wE W0.heap.size 26 4 (by omega) hxE
      have hsrcE : Src Tryz.prog 4 28 (.slice a6 n6 c6) n6 (x.more.flatMap pkL) wE := by
        have h1 := (HMO.out.below (hbg.out.bel.trans (hbE.mono hbg.out.bel.size))).src
        rw [← HN.out.2.2] at h1
        exact h1
      have hT2 := hbg.out.two
      have G1E := Lib.hid ((hbE.block _ (lt_of_heap G14.out)).trans G14.out); have G2E := Lib.hid ((hbE.block _ (lt_of_heap G24.out)).trans G24.out); have G7E := Lib.hid ((hbE.block _ (lt_of_heap G74.out)).trans G74.out)
      have HEMP := Lib.hid hemp; have HSRC := Lib.hid hsrcE; have HBE := Lib.hid hbE; have HT2 := Lib.hid hT2; have HBW := Lib.hid hbg.out.bel; have HGE := Lib.hid (show W0.heap.size ≤ gE from by omega)
      clear hsrc hbE hxE hemp hsrcE hT2 y1 y2
      have u0 := cell_of_heap G1E.out 0
      have u1 := cell_of_heap G1E.out 1
      have u2 := cell_of_heap G1E.out 2
      have u3 := cell_of_heap G1E.out 3
      have u4 := cell_of_heap G1E.out 4
      have u5 := cell_of_heap G1E.out 5
      have u6 := cell_of_heap G1E.out 6
      have u7 := cell_of_heap G1E.out 7
      have hn6 : n6 ≤ 100 := by omega
      have hall := fun W (hW : Below W0.heap.size W0 W) => rall_any W zAll _ st (hbg.out.below hW).two.ref (by have := hbg.out.stk.few8; omega) (by have := hbg.out.stk.few8; omega)
      have HALL := Lib.hid hall; have HFEW := Lib.hid hbg.out.stk.few8
      clear hall
      go_wp2_with (first | (at_builtin; refine wpList_append_srcs rfl (.tmp 106) (.tmp 108) 28 28 rfl W0.heap.size 26 iP _ 4 40 Tryz.underlying28 HI.out.1 HI.out.2.1 HI.out.2.2.1 HI.out.2.2.2 rfl (by decide) (.slice (some ⟨gE, 0, none⟩) 0 0) rfl 0 [] HEMP.out (.slice a6 n6 c6) rfl n6 (x.more.flatMap pkL) HSRC.out (by unfold maxLen; omega) (by omega) HBE.out.size ?_; intro aQ cQ wQ hown hgrow _ _; simp only [Nat.zero_add, List.nil_append] at hown ⊢; have hbQ := below_grownR HBE.out (v := .slice (some ⟨gE, 0, none⟩) 0 0) hgrow (fun g hg => (by simpa [Value.ownBlock] using hg : gE = g) ▸ HGE.out); have HBQ := Lib.hid hbQ; have HOWN := Lib.hid hown; have m0 := cell_of_heap ((hbQ.block _ (lt_of_heap G74.out)).trans G74.out) 0; have m1 := cell_of_heap ((hbQ.block _ (lt_of_heap G74.out)).trans G74.out) 1; clear hown hgrow hbQ) | fail)
      refine (HALL.out _ HBQ.out).mono ?_
      rintro e wA ⟨vA, rfl, hrow, hA⟩
      obtain ⟨ps, hps⟩ : ∃ ps, ps = st.all := ⟨_, rfl⟩
      rw [← hps] at hrow
      have hlen : ps.length ≤ 40 := by rw [hps]; exact allLen HFEW.out
      obtain ⟨nA, hnA⟩ : ∃ n, n = ps.length := ⟨_, rfl⟩
      have hnA2 : nA ≤ 40 := by omega
      have hP := hrow.at (by omega)
      obtain ⟨aA, cA, rfl⟩ := hrow.form
      rw [← hnA] at hP hlen ⊢
      obtain ⟨Sx, hSx⟩ : ∃ S : List Nat, S = (Value.slice aQ n6 cQ).ownBlock.toList := ⟨_, rfl⟩
      have hS1 : ∀ b ∈ Sx, W0.heap.size ≤ b ∧ b < wQ.heap.size := fun b hb => by
        rw [hSx, Option.mem_toList] at hb
        exact row_base HOWN.out b hb
      have hrow0 : PkRow W0.heap.size wA (.slice aQ n6 cQ) x.more := by
        unfold PkRow
        rw [← HN.out.2.2]
        exact row_below HOWN.out hA
      have HP := Lib.hid hP; have HNA := Lib.hid hnA; have HBA := Lib.hid (HBQ.out.trans (hA.mono HBQ.out.size)); have HS1 := Lib.hid hS1; have HSX := Lib.hid hSx; have HRW := Lib.hid hrow0; have HQA := Lib.hid hA.size
      clear hps hrow hlen hP hnA hA hSx hS1 hrow0 m0 m1 u0 u1 u2 u3 u4 u5 u6 u7
      go_wp2_with fail
      go_loopw [11, 113] (fun y i wr => ∃ (k m : Nat) (Lp : List Pk) (a : Option Addr) (c : Nat), y = .slice a m c ∧ i = .int .i64 k ∧ k ≤ nA ∧ m ≤ k + n6 ∧ Hid (m = Lp.length) ∧ Hid (PkRow W0.heap.size wr (.slice a m c) Lp) ∧ Hid (Ch Sx wA wr) ∧ Hid (newOr (.slice a m c) (.slice aQ n6 cQ) wA)) (fun _ i _ => nA - (intOf i).toNat)
      case atStart => exact ⟨0, n6, x.more, aQ, cQ, rfl, rfl, Nat.zero_le _, by omega, Lib.hid HN.out.2.2, HRW, Lib.hid (Ch.refl _ _), Lib.hid (.inl rfl)⟩
      case round =>
        obtain ⟨k, m, Lp, a, c, rfl, rfl, hk, hmk, hm, hrow, hch, hno⟩ := hrel
        have hb2w : Below W0.heap.size W0 wr := HBA.out.trans (below_of_ch hch.out (fun b hb => (HS1.out b hb).1) HBA.out.size)
        have HB2W := Lib.hid hb2w
        clear hb2w
        by_cases hlt : k < nA
        · obtain ⟨q, hq⟩ : ∃ q, ps[k]? = some q := ⟨_, List.getElem?_eq_getElem (by rw [← HNA.out]; exact hlt)⟩
          have hP2 : PkgsAt (zNew wQ.heap.size) wr (.slice aA nA cA) ps := HP.out.keep (Keep.of_block (fun b _ hz => hz) hch.out.size (fun b hl hz => hch.out.block b hl (fun hm => by have h1 := (HS1.out b hm).2; have h2 : wQ.heap.size ≤ b := hz; omega)))
          obtain ⟨bP, oP, S, rfl, hS, c0, c1, c2, c3⟩ := hP2.cells hq
          obtain ⟨q1, hq1⟩ : ∃ x, x = q.2.1 := ⟨_, rfl⟩
          obtain ⟨q2, hq2⟩ : ∃ x, x = q.2.2.1 := ⟨_, rfl⟩
          obtain ⟨q3, hq3⟩ : ∃ x, x = q.2.2.2 := ⟨_, rfl⟩
          rw [← hq1] at c1; rw [← hq2] at c2; rw [← hq3] at c3
          obtain ⟨w3, hw3, hb3, hx3, z1, z2⟩ := any_block wr #[.string S, .int .i64 q1, .int .i64 q2, .int .i64 q3] 26
          obtain ⟨b3, hb3e⟩ : ∃ b, wr.heap.size = b := ⟨_, rfl⟩
          rw [hb3e] at hx3
          have hbW3 := HB2W.out.trans (hb3.mono HB2W.out.size)
          have u5 := cell_of_heap ((hbW3.block _ (lt_of_heap G14.out)).trans G14.out) 5
          have k0 := cell_of_heap hx3 0
          have k1 := cell_of_heap hx3 1
          have k2 := cell_of_heap hx3 2
          have k3 := cell_of_heap hx3 3
          have hch3 := hch.out.trans (Ch.of_below hb3 Sx) (fun x hx => .inl hx)
          have HX3 := Lib.hid hx3; have HBW3 := Lib.hid hbW3; have HR3 := Lib.hid (hrow.out.below hb3); have HC3 := Lib.hid hch3; have HSQ := Lib.hid (And.intro hS (And.intro hq1 (And.intro hq2 hq3))); have HZ3 := Lib.hid hb3.size
          have HL3 := Lib.hid (HLE.out.below (HBW.out.trans (hbW3.mono HBW.out.size)))
          clear hq hP2 hS hq1 hq2 hq3 hb3 hx3 hbW3 hch3 z1 z2
          have hk40 : k < 40 := by omega
          go_wp2_with fail
          go_loopw [14, 121] (fun y i wr => ∃ (ob : Bool) (jj : Nat), y = .bool ob ∧ i = .int .i64 jj ∧ jj ≤ n5 ∧ wr = w3) (fun _ i _ => n5 - (intOf i).toNat)
          case atStart => exact ⟨false, 0, rfl, rfl, Nat.zero_le _, rfl⟩
          case round =>
            obtain ⟨ob, jj, rfl, rfl, hjn, rfl⟩ := hrel
            by_cases hlj : jj < n5
            · obtain ⟨z, hz⟩ : ∃ z, x.less[jj]? = some z := ⟨_, List.getElem?_eq_getElem (by rw [← HN.out.2.1]; exact hlj)⟩
              obtain ⟨bL, oL, rfl, e0⟩ := intsAt_cells HL3.out hz
              clear hz
              cases ob
              · go_wp2_with fail
                go_roundw
                case rel => exact ⟨_, jj + 1, rfl, by go_num, hlj, by first | rfl | trivial⟩
                case measure => simp [intOf]; omega
              · go_wp2_with fail
                go_roundw
                case rel => exact ⟨_, jj + 1, rfl, by go_num, hlj, by first | rfl | trivial⟩
                case measure => simp [intOf]; omega
            · obtain rfl : jj = n5 := by omega
              cases ob
              · obtain ⟨w5, hw5, hb5, hx5, z1, z2⟩ := any_block wr #[.string S, .int .i64 q1, .int .i64 q2, .int .i64 q3] 26
                obtain ⟨b5, hb5e⟩ : ∃ b, wr.heap.size = b := ⟨_, rfl⟩
                rw [hb5e] at hx5
                have hsrc5 := src_pk (q := q) HSQ.out.1 (by rw [← HSQ.out.2.1, ← HSQ.out.2.2.1, ← HSQ.out.2.2.2]; exact hx5)
                have hrm := HR3.out.below hb5
                have hrb := row_base hrm
                unfold PkRow at hrm
                rw [← hm.out] at hrm
                have hc5 := HC3.out.trans (Ch.of_below hb5 Sx) (fun x hx => .inl hx)
                have hsz5 : W0.heap.size ≤ w5.heap.size := Nat.le_trans HBW3.out.size hb5.size
                have HSRC5 := Lib.hid hsrc5; have HRM := Lib.hid hrm; have HC5 := Lib.hid hc5; have HZ5 := Lib.hid hsz5; have HA5 := Lib.hid (Nat.le_trans HC3.out.size hb5.size)
                clear hsrc5 hrm hc5 hb5 hx5 hrb hsz5 z1 z2
                go_wp2_with (first | (at_builtin; refine wpList_append_srcs rfl (.tmp 134) (.tmp 136) 28 28 rfl W0.heap.size 26 iP _ 4 40 Tryz.underlying28 HI.out.1 HI.out.2.1 HI.out.2.2.1 HI.out.2.2.2 rfl (by decide) (.slice a m c) rfl m (Lp.flatMap pkL) HRM.out (.slice (some ⟨b5, 0, none⟩) 1 1) rfl 1 (pkL q) HSRC5.out (by unfold maxLen; omega) (by omega) HZ5.out ?_; intro a' c' w6 hown hgrow _ hblk; have HBLK := Lib.hid hblk; clear hblk; have HOWN := Lib.hid hown; have HGROW := Lib.hid hgrow; clear hown hgrow) | fail)
                have hnew : newOr (.slice a' (m + 1) c') (.slice aQ n6 cQ) wA := by
                  rcases HBLK.out with h | h
                  · rcases hno.out with g | ⟨g, g1, g2⟩
                    · exact .inl (h.trans g)
                    · exact .inr ⟨g, h.trans g1, g2⟩
                  · exact .inr ⟨_, h, HA5.out⟩
                have hch6 : Ch Sx wA w6 := HC5.out.grown HGROW.out (fun k hk => by
                  rcases hno.out with g | ⟨g, g1, g2⟩
                  · rw [hk] at g; exact .inl (by rw [HSX.out, Option.mem_toList]; exact g.symm)
                  · rw [hk] at g1; rw [Option.some.inj g1]; exact .inr g2)
                go_roundw
                case rel => exact ⟨k + 1, m + 1, Lp ++ [q], a', c', rfl, by go_num, hlt, by omega, Lib.hid (by rw [List.length_append, hm.out]; rfl), Lib.hid (PkRow.push hm.out HOWN.out), Lib.hid hch6, Lib.hid hnew⟩
                case measure => simp [intOf]; omega
              · go_wp2_with fail
                go_roundw
                case rel => exact ⟨k + 1, m, Lp, a, c, rfl, by go_num, hlt, by omega, hm, HR3, HC3, hno⟩
                case measure => simp [intOf]; omega
        · obtain rfl : k = nA := by omega
          have m0 := cell_of_heap ((HB2W.out.block _ (lt_of_heap G74.out)).trans G74.out) 0
          have m1 := cell_of_heap ((HB2W.out.block _ (lt_of_heap G74.out)).trans G74.out) 1
          have z0 := cell_of_heap ((HB2W.out.block _ (lt_of_heap G24.out)).trans G24.out) 0
          have z1 := cell_of_heap ((HB2W.out.block _ (lt_of_heap G24.out)).trans G24.out) 1
          have zf := frozen_of_heap ((HB2W.out.block _ (lt_of_heap G24.out)).trans G24.out)
          go_wp2_with fail
          go_region
          go_wp2_with fail
          obtain ⟨V, hV, hVx, hVc⟩ := two_setR (w := wr) ((HB2W.out.block _ (lt_of_heap G24.out)).trans G24.out) (.slice a1 n1 c1) (.slice a2 n2 c2)
          try rw [hV]
          have r0 := cell_of_heap (w := V.drew) hVx 0
          have r1 := cell_of_heap (w := V.drew) hVx 1
          refine bodyPost_ret (v := .tuple #[.pointer (some ⟨B, 0, none⟩), .agg #[.slice a1 n1 c1, .slice a2 n2 c2], .slice a m c, .bool true]) (by simp [results, Tryz.results9, go_sem, r0, r1]) rfl ?_
          have hbgV := ((hbg.out.below HB2W.out).write D2.out hVc).below (show Below V.heap.size V V.drew from (Below.refl _ V).drew)
          refine ⟨hbgV.bel, B, a1, n1, c1, a2, n2, c2, a, m, c, true, rfl, fun _ => ⟨st, Lp, hbgV.two, ?_, by rw [← hm.out]; omega⟩⟩
          have hrow2 := hrow.out
          unfold PkRow at hrow2 ⊢
          refine row_mono (ownsRow_keep (w' := V.drew) hrow2 (fun g hg => ?_)) HBW.out.size
          obtain ⟨h1, h2⟩ := row_base hrow2 g hg
          exact hVc.block g h2 (fun hmm => by rw [List.mem_singleton.1 hmm] at h1; have h3 := lt_of_heap G24.out; omega)
end Go.Proofs.YtnbeklmjinnbaaaGreat
