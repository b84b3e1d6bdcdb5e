/- DERIVED. The reference's plans: in, uses, Needs, Same, Make, walked. (Printed by rplngen.py.) -/
import Derived.Test.YtaagkndhgicifaaGreatStgBeg0
import Derived.Test.YtaagkndhgicifaaGreatPlnMem
namespace Go.Proofs.YtaagkndhgicifaaGreat
set_option maxHeartbeats 32000000
open Go.RowKit Go.Shelf
set_option linter.unusedVariables false
set_option linter.unusedSimpArgs false
set_option maxRecDepth 100000
theorem rin17_any (w : World) (Z : Zone) (v : Value) (es : List EV) (h : EntsAt Z w v es) (p : Pk) :
  Calls Tryz.prog 110 #[v, .agg #[strV p.1, .int .i64 p.2.1, .int .i64 p.2.2.1, .int .i64 p.2.2.2]] w (fun e w' => e = .returned (.bool (es.any fun x => decide (x.1.pkg = p))) ∧ Below w.heap.size w w') := by
 obtain ⟨a, c, rfl, hb, -⟩ := id h
 obtain ⟨n, hnn⟩ : ∃ n, n = es.length := ⟨_, rfl⟩
 obtain ⟨R, hR⟩ : ∃ R, R = es.any fun x => decide (x.1.pkg = p) := ⟨_, rfl⟩
 rw [← hR]
 rw [← hnn] at hb h ⊢
 have hnl : n ≤ 8796093022208 := hb.max
 obtain ⟨P, -, hP, -, -⟩ := strV_is p.1
 obtain ⟨v1, hv1⟩ : ∃ z, z = p.2.1 := ⟨_, rfl⟩
 obtain ⟨v2, hv2⟩ : ∃ z, z = p.2.2.1 := ⟨_, rfl⟩
 obtain ⟨v3, hv3⟩ : ∃ z, z = p.2.2.2 := ⟨_, rfl⟩
 rw [hP, ← hv1, ← hv2, ← hv3]
 obtain ⟨w1, hw1, hb1, hx1, y1, y2⟩ := aBk w #[.string P, .int .i64 v1, .int .i64 v2, .int .i64 v3] 41
 obtain ⟨b1, hb1e⟩ : ∃ b, w.heap.size = b := ⟨_, rfl⟩
 rw [hb1e] at hx1
 have HE := hdL (h.below hb1); have HB := hdL hb1; have HNE := hdL hnn; have HR := hdL hR; have G1 := hdL hx1; have HPS := hdL (And.intro hP (And.intro hv1 (And.intro hv2 hv3)))
 clear h hb hnn hR hb1 hx1 hP hv1 hv2 hv3 y1 y2
 go_enter Tryz.func110, Tryz.ntmps110
 go_wp2_with fail
 go_loopw [9] (fun x wr => ∃ k : Nat, x = .int .i64 k ∧ k ≤ n ∧ Hid ((es.take k).any (fun x => decide (x.1.pkg = p)) = false) ∧ Hid (Below w1.heap.size w1 wr)) (fun x _ => n - (intOf x).toNat)
 case atStart => exact ⟨0, rfl, Nat.zero_le _, rfl, Below.refl _ _⟩
 case round =>
  obtain ⟨k, rfl, hk, hno, hbw⟩ := hrel
  have g1 := (hbw.out.block _ (loh G1.out)).trans G1.out
  by_cases hlt : k < n
  ·obtain ⟨x, hx⟩ : ∃ x, es[k]? = some x := ⟨_, gEg (by rw [← HNE.out]; exact hlt)⟩
   obtain ⟨b, o, S', T', rfl, hS', hT', hwx, c0, c1, c2, c3, c4, c5, c6, c7, c8, c9⟩ := (HE.out.below hbw.out).cells hx
   obtain ⟨S, T, p1, p2, p3, sg, t1, t2, t3, n9, hl⟩ := ent_let x.1
   obtain rfl : S' = S := by rw [hl.s] at hS'; injection hS' with hS'; exact hS'.symm
   obtain rfl : T' = T := by rw [hl.t] at hT'; injection hT' with hT'; exact hT'.symm
   rw [← hl.p.1] at c1; rw [← hl.p.2.1] at c2; rw [← hl.p.2.2] at c3; rw [← hl.g] at c4; rw [← hl.c.1] at c6; rw [← hl.c.2.1] at c7; rw [← hl.c.2.2] at c8; rw [← hl.n] at c9
   obtain ⟨ax, hax⟩ : ∃ y, y = x.2.1 := ⟨_, rfl⟩
   obtain ⟨cx, hcx⟩ : ∃ y, y = x.2.2 := ⟨_, rfl⟩
   rw [← hax, ← hcx] at c9
   have heq := eqPk2 x.1.pkg p hl.s HPS.out.1
   rw [← hl.p.1, ← hl.p.2.1, ← hl.p.2.2, ← HPS.out.2.1, ← HPS.out.2.2.1, ← HPS.out.2.2.2] at heq
   obtain ⟨w4, hw4, hb4, hx4, y1, y2⟩ := aBk wr #[.string S', .int .i64 p1, .int .i64 p2, .int .i64 p3, .int .i64 sg, .string T', .int .i64 t1, .int .i64 t2, .int .i64 t3, .slice ax n9 cx] 45
   obtain ⟨b4, hb4e⟩ : ∃ b, wr.heap.size = b := ⟨_, rfl⟩
   rw [hb4e] at hx4
   have g14 := (hb4.block _ (loh g1)).trans g1
   have H3 := hdL (hbw.out.trans (hb4.mono hbw.out.size)); have HQ := hdL hx
   clear hx hwx hS' hT' hl hax hcx hb4 g1 y1 y2
   obtain ⟨q0, q1, q2, q3, q4, q5, q6, q7, q8, q9⟩ := cells10 hx4
   obtain ⟨e0, e1, e2, e3⟩ := cells4 g14
   clear hx4 g14
   cases hd : decide (x.1.pkg = p)
   ·simp only [hd] at heq
    have HNO := hdL (any_takes hno.out HQ.out (P := fun x => decide (x.1.pkg = p)) hd)
    clear hd
    go_wp2_with fail
    go_roundw
    case rel => exact ⟨k + 1, by go_num, hlt, HNO, H3⟩
    case measure => first | (simp [intOf]; done) | (simp [intOf]; omega)
   ·simp only [hd] at heq
    have HY := hdL (show R = true by rw [HR.out]; exact any_yes HQ.out (P := fun x => decide (x.1.pkg = p)) hd)
    clear hd
    go_wp2_with fail
    go_ret
    exact ⟨by (rw [HY.out]; rfl), HB.out.trans (H3.out.mono HB.out.size)⟩
  ·obtain rfl : k = n := by omega
   have HY := hdL (show R = false by
    have := hno.out
    rw [tLe (by rw [← HNE.out]; exact Nat.le_refl _)] at this
    rw [HR.out]; exact this)
   clear g1
   go_wp2_with fail
   go_ret
   exact ⟨by (rw [HY.out]; rfl), HB.out.trans (hbw.out.mono HB.out.size)⟩
theorem usesB_zero {x : Ent} (h : x.stage = 0) (q : Pk) : usesB x q = false := by unfold usesB; rw [if_pos h]
theorem usesB_pos {x : Ent} (h : x.stage ≠ 0) (q : Pk) : usesB x q = (decide (x.choice.1 = q) || x.choice.2.any fun y => decide (y = q)) := by unfold usesB inP; rw [if_neg h]
theorem ruses_any (w : World) (x : Ent) (ax : Option Addr) (cx : Nat) (Z : Zone) (h : PkgsAt Z w (.slice ax x.choice.2.length cx) x.choice.2) (p : Pk) :
  Calls Tryz.prog 109 #[.agg (entL (x, (ax, cx))).toArray, .agg #[strV p.1, .int .i64 p.2.1, .int .i64 p.2.2.1, .int .i64 p.2.2.2]] w (fun e w' => e = .returned (.bool (usesB x p)) ∧ Below w.heap.size w w') := by
 obtain ⟨R, hR⟩ : ∃ R, R = usesB x p := ⟨_, rfl⟩
 rw [← hR]
 obtain ⟨S, T, p1, p2, p3, sg, t1, t2, t3, n9, hl⟩ := ent_let x
 rw [hl.arr]
 rw [← hl.n] at h
 have hn9 : n9 ≤ 8796093022208 := by obtain ⟨a', c', e', hb', -⟩ := h; have := hb'.max; rw [← hl.n] at this; exact this
 obtain ⟨P, -, hP, -, -⟩ := strV_is p.1
 obtain ⟨v1, hv1⟩ : ∃ z, z = p.2.1 := ⟨_, rfl⟩
 obtain ⟨v2, hv2⟩ : ∃ z, z = p.2.2.1 := ⟨_, rfl⟩
 obtain ⟨v3, hv3⟩ : ∃ z, z = p.2.2.2 := ⟨_, rfl⟩
 rw [hP, ← hv1, ← hv2, ← hv3]
 have heq := eqPk2 x.choice.1 p hl.t hP
 rw [← hl.c.1, ← hl.c.2.1, ← hl.c.2.2, ← hv1, ← hv2, ← hv3] at heq
 obtain ⟨w0, hw0, hb0, hx0, y1, y2⟩ := aBk w #[.string S, .int .i64 p1, .int .i64 p2, .int .i64 p3, .int .i64 sg, .string T, .int .i64 t1, .int .i64 t2, .int .i64 t3, .slice ax n9 cx] 45
 obtain ⟨w1, hw1, hb1, hx1, y3, y4⟩ := aBk w0 #[.string P, .int .i64 v1, .int .i64 v2, .int .i64 v3] 41
 obtain ⟨b0, hb0e⟩ : ∃ b, w.heap.size = b := ⟨_, rfl⟩
 obtain ⟨b1, hb1e⟩ : ∃ b, w0.heap.size = b := ⟨_, rfl⟩
 have g0 := (hb1.block _ (by omega)).trans hx0
 rw [hb0e] at g0; rw [hb1e] at hx1
 have hb01 := hb0.trans (hb1.mono hb0.size)
 have HE := hdL (h.below hb01); have HB := hdL hb01; have HR := hdL hR; have HL := hdL hl; have G1 := hdL hx1; have HPS := hdL (And.intro hP (And.intro hv1 (And.intro hv2 hv3))); have HEQ := hdL heq
 have s0 := hl.g
 obtain ⟨q0, q1, q2, q3, q4, q5, q6, q7, q8, q9⟩ := cells10 g0
 obtain ⟨e0, e1, e2, e3⟩ := cells4 hx1
 clear h hb0 hb1 hb01 g0 hx0 hx1 hR hl hP hv1 hv2 hv3 heq y1 y2 y3 y4
 by_cases hz : sg = 0
 ·have HY := hdL (show R = false by rw [HR.out, usesB_zero (by rw [← s0]; exact hz)])
  clear s0
  subst hz
  go_enter Tryz.func109, Tryz.ntmps109
  go_wp2_with fail
  go_ret
  exact ⟨by (rw [HY.out]; rfl), HB.out⟩
 ·have hru := usesB_pos (x := x) (by rw [← s0]; exact hz) p
  rw [← HR.out] at hru
  have hsz : ((sg : Int) == 0) = false := by simp; exact hz
  have HRU := hdL hru; clear hru s0
  cases hd : decide (x.choice.1 = p)
  ·have HRA := hdL (show R = x.choice.2.any fun y => decide (y = p) by rw [HRU.out, hd]; rfl)
   have heq := HEQ.out
   simp only [hd] at heq
   clear hd
   go_enter Tryz.func109, Tryz.ntmps109
   go_wp2_with fail
   clear heq q0 q1 q2 q3 q4 q5 q6 q7 q8 q9 e0 e1 e2 e3
   go_loopw [19] (fun x' wr => ∃ k : Nat, x' = .int .i64 k ∧ k ≤ n9 ∧ Hid ((x.choice.2.take k).any (fun y => decide (y = p)) = false) ∧ Hid (Below w1.heap.size w1 wr)) (fun x' _ => n9 - (intOf x').toNat)
   case atStart => exact ⟨0, rfl, Nat.zero_le _, rfl, Below.refl _ _⟩
   case round =>
    obtain ⟨k, rfl, hk, hno, hbw⟩ := hrel
    have g1 := (hbw.out.block _ (loh G1.out)).trans G1.out
    by_cases hlt : k < n9
    ·obtain ⟨q, hq⟩ : ∃ q, x.choice.2[k]? = some q := ⟨_, gEg (by rw [← HL.out.n]; exact hlt)⟩
     obtain ⟨b, o, Q, rfl, hQ, c0, c1, c2, c3⟩ := (HE.out.below hbw.out).cells hq
     obtain ⟨u1, hu1⟩ : ∃ z, z = q.2.1 := ⟨_, rfl⟩
     obtain ⟨u2, hu2⟩ : ∃ z, z = q.2.2.1 := ⟨_, rfl⟩
     obtain ⟨u3, hu3⟩ : ∃ z, z = q.2.2.2 := ⟨_, rfl⟩
     rw [← hu1] at c1; rw [← hu2] at c2; rw [← hu3] at c3
     have hqq := eqPk2 q p hQ HPS.out.1
     rw [← hu1, ← hu2, ← hu3, ← HPS.out.2.1, ← HPS.out.2.2.1, ← HPS.out.2.2.2] at hqq
     obtain ⟨w3, hw3, hb3, hx3, z1, z2⟩ := aBk wr #[.string Q, .int .i64 u1, .int .i64 u2, .int .i64 u3] 41
     obtain ⟨b3, hb3e⟩ : ∃ b, wr.heap.size = b := ⟨_, rfl⟩
     rw [hb3e] at hx3
     have g13 := (hb3.block _ (loh g1)).trans g1
     have H3 := hdL (hbw.out.trans (hb3.mono hbw.out.size)); have HQ := hdL hq
     clear hq hQ hu1 hu2 hu3 hb3 g1 z1 z2
     obtain ⟨q0, q1, q2, q3⟩ := cells4 hx3
     obtain ⟨e0, e1, e2, e3⟩ := cells4 g13
     clear hx3 g13
     cases hd : decide (q = p)
     ·simp only [hd] at hqq
      have HNO := hdL (any_takes hno.out HQ.out (P := fun y => decide (y = p)) hd)
      clear hd
      go_wp2_with fail
      go_roundw
      case rel => exact ⟨k + 1, by go_num, hlt, HNO, H3⟩
      case measure => first | (simp [intOf]; done) | (simp [intOf]; omega)
     ·simp only [hd] at hqq
      have HY := hdL (show R = true by rw [HRA.out]; exact any_yes HQ.out (P := fun y => decide (y = p)) hd)
      clear hd
      go_wp2_with fail
      go_ret
      exact ⟨by (rw [HY.out]; rfl), HB.out.trans (H3.out.mono HB.out.size)⟩
    ·obtain rfl : k = n9 := by omega
     have HY := hdL (show R = false by
      have := hno.out
      rw [tLe (by rw [← HL.out.n]; exact Nat.le_refl _)] at this
      rw [HRA.out]; exact this)
     clear g1
     go_wp2_with fail
     go_ret
     exact ⟨by (rw [HY.out]; rfl), HB.out.trans (hbw.out.mono HB.out.size)⟩
  ·have HY := hdL (show R = true by rw [HRU.out, hd]; rfl)
   have heq := HEQ.out
   simp only [hd] at heq
   clear hd
   go_enter Tryz.func109, Tryz.ntmps109
   go_wp2_with fail
   go_ret
   exact ⟨by (rw [HY.out]; rfl), HB.out⟩
def samesE (a b : List Ent) : Bool := decide (a = b)
theorem samesE_ne {a b : List Ent} {k : Nat} {x y : Ent} (ha : a[k]? = some x) (hb : b[k]? = some y) (h : entEq x y = false) : a ≠ b := by
 rintro rfl
 rw [ha] at hb
 obtain rfl := sIj hb
 rw [entEq_iff.2 rfl] at h
 cases h
theorem takes_eq {a b : List Ent} {k : Nat} {x y : Ent} (ha : a[k]? = some x) (hb : b[k]? = some y) (h : entEq x y = true) (ht : a.take k = b.take k) : a.take (k + 1) = b.take (k + 1) := by
 rw [List.take_add_one, List.take_add_one, ha, hb, ht, entEq_iff.1 h]
theorem rsame17_any (w : World) (Z Z2 : Zone) (v v2 : Value) (es fs : List EV) (h : EntsAt Z w v es) (h2 : EntsAt Z2 w v2 fs) :
  Calls Tryz.prog 41 #[v, v2] w (fun e w' => e = .returned (.bool (decide (es.map Prod.fst = fs.map Prod.fst))) ∧ Below w.heap.size w w') := by
 obtain ⟨a, c, rfl, hb, -⟩ := id h
 obtain ⟨a2, c2, rfl, hb2, -⟩ := id h2
 obtain ⟨n, hnn⟩ : ∃ n, n = es.length := ⟨_, rfl⟩
 obtain ⟨n2, hnn2⟩ : ∃ n, n = fs.length := ⟨_, rfl⟩
 obtain ⟨R, hR⟩ : ∃ R, R = decide (es.map Prod.fst = fs.map Prod.fst) := ⟨_, rfl⟩
 rw [← hR]
 rw [← hnn] at hb h ⊢; rw [← hnn2] at hb2 h2 ⊢
 have hnl : n ≤ 8796093022208 := hb.max
 have hnl2 : n2 ≤ 8796093022208 := hb2.max
 have HE := hdL h; have HF := hdL h2; have HNE := hdL (And.intro hnn hnn2); have HR := hdL hR
 clear h h2 hb hb2 hnn hnn2 hR
 by_cases hl : n = n2
 ·subst hl
  go_enter Tryz.func41, Tryz.ntmps41
  go_wp2_with fail
  go_loopw [13] (fun x wr => ∃ k : Nat, x = .int .i64 k ∧ k ≤ n ∧ Hid ((es.map Prod.fst).take k = (fs.map Prod.fst).take k) ∧ Hid (Below w.heap.size w wr)) (fun x _ => n - (intOf x).toNat)
  case atStart => exact ⟨0, rfl, Nat.zero_le _, hdL rfl, Below.refl _ _⟩
  case round =>
   obtain ⟨k, rfl, hk, hno, hbw⟩ := hrel
   obtain ⟨W0, hW0⟩ : ∃ W, W = wr := ⟨_, rfl⟩
   subst hW0
   by_cases hlt : k < n
   ·obtain ⟨x, hx⟩ : ∃ x, es[k]? = some x := ⟨_, gEg (by rw [← HNE.out.1]; exact hlt)⟩
    obtain ⟨y, hy⟩ : ∃ y, fs[k]? = some y := ⟨_, gEg (by rw [← HNE.out.2]; exact hlt)⟩
    obtain ⟨b, o, S', T', rfl, hS', hT', hwx, c0, c1, c2, c3, c4, c5, c6, c7, c8, c9⟩ := (HE.out.below hbw.out).cells hx
    obtain ⟨S, T, p1, p2, p3, sg, t1, t2, t3, n9, hl⟩ := ent_let x.1
    obtain rfl : S' = S := by rw [hl.s] at hS'; injection hS' with hS'; exact hS'.symm
    obtain rfl : T' = T := by rw [hl.t] at hT'; injection hT' with hT'; exact hT'.symm
    rw [← hl.p.1] at c1; rw [← hl.p.2.1] at c2; rw [← hl.p.2.2] at c3; rw [← hl.g] at c4; rw [← hl.c.1] at c6; rw [← hl.c.2.1] at c7; rw [← hl.c.2.2] at c8; rw [← hl.n] at c9
    obtain ⟨ax, hax⟩ : ∃ y, y = x.2.1 := ⟨_, rfl⟩
    obtain ⟨cx, hcx⟩ : ∃ y, y = x.2.2 := ⟨_, rfl⟩
    rw [← hax, ← hcx] at c9
    obtain ⟨b2, o2, S2', T2', rfl, hS2', hT2', hwy, d0, d1, d2, d3, d4, d5, d6, d7, d8, d9⟩ := (HF.out.below hbw.out).cells hy
    obtain ⟨S2, T2, q1, q2, q3, sh, u1, u2, u3, m9, hm⟩ := ent_let y.1
    obtain rfl : S2' = S2 := by rw [hm.s] at hS2'; injection hS2' with hS2'; exact hS2'.symm
    obtain rfl : T2' = T2 := by rw [hm.t] at hT2'; injection hT2' with hT2'; exact hT2'.symm
    rw [← hm.p.1] at d1; rw [← hm.p.2.1] at d2; rw [← hm.p.2.2] at d3; rw [← hm.g] at d4; rw [← hm.c.1] at d6; rw [← hm.c.2.1] at d7; rw [← hm.c.2.2] at d8; rw [← hm.n] at d9
    obtain ⟨ay, hay⟩ : ∃ z, z = y.2.1 := ⟨_, rfl⟩
    obtain ⟨cy, hcy⟩ : ∃ z, z = y.2.2 := ⟨_, rfl⟩
    rw [← hay, ← hcy] at d9
    have hsm := fun W (hW : Below W0.heap.size W0 W) => rsame16_any W x.1 y.1 x.2.1 y.2.1 x.2.2 y.2.2 Z Z2 (hwx.below hW) (hwy.below hW)
    simp only [hl.arr, hm.arr, ← hax, ← hcx, ← hay, ← hcy] at hsm
    obtain ⟨r, hr⟩ : ∃ r, r = entEq x.1 y.1 := ⟨_, rfl⟩
    rw [← hr] at hsm
    have HSM := hdL hsm; have HXY := hdL (And.intro hx hy); have HRR := hdL hr
    clear hx hy hwx hwy hS' hT' hS2' hT2' hl hm hax hcx hay hcy hsm hr
    obtain ⟨ι, F, hF0, hFB, hFG⟩ := below_fam W0
    have hcF : ∀ a v, W0.cell? a = some v → ∀ n, (F n).cell? a = some v := fun a v h n => bkp (hFB n) _ _ h
    have x0 := hcF _ _ c0; have y0 := hcF _ _ d0
    have x1 := hcF _ _ c1; have y1 := hcF _ _ d1
    have x2 := hcF _ _ c2; have y2 := hcF _ _ d2
    have x3 := hcF _ _ c3; have y3 := hcF _ _ d3
    have x4 := hcF _ _ c4; have y4 := hcF _ _ d4
    have x5 := hcF _ _ c5; have y5 := hcF _ _ d5
    have x6 := hcF _ _ c6; have y6 := hcF _ _ d6
    have x7 := hcF _ _ c7; have y7 := hcF _ _ d7
    have x8 := hcF _ _ c8; have y8 := hcF _ _ d8
    have x9 := hcF _ _ c9; have y9 := hcF _ _ d9
    have HCALL := hdL (calls_fam hFB hFG HSM.out); have HF0 := hdL hF0; have HFB := hdL hFB
    clear hF0 hFB hFG hcF c0 c1 c2 c3 c4 c5 c6 c7 c8 c9 d0 d1 d2 d3 d4 d5 d6 d7 d8 d9
    go_wp2_with fail
    obtain ⟨n0, hn0⟩ := HF0.out 1
    have hne : Nonempty ι := ⟨n0⟩
    refine wp_region_fam F n0 hn0 (by kernel_rfl) (by kernel_rfl) ?_
    repeat (go_big_quiet_step ((go_at_call 32; exact HCALL.out _)))
    refine wpQuiet_nil ?_
    intro _ hw'
    obtain ⟨m0, hw''⟩ := hw'
    subst hw''
    have HBM := hdL (hbw.out.trans ((HFB.out m0).mono hbw.out.size))
    have hxm : (es.map Prod.fst)[k]? = some x.1 := by rw [List.getElem?_map, HXY.out.1]; rfl
    have hym : (fs.map Prod.fst)[k]? = some y.1 := by rw [List.getElem?_map, HXY.out.2]; rfl
    cases r
    ·have HY := hdL (show R = false by rw [HR.out]; exact decide_eq_false (samesE_ne hxm hym HRR.out.symm))
     clear hxm hym
     go_wp2_with fail
     go_ret
     exact ⟨by (rw [HY.out]; rfl), HBM.out⟩
    ·have HNO := hdL (takes_eq hxm hym HRR.out.symm hno.out)
     clear hxm hym
     go_wp2_with fail
     go_roundw
     case rel => exact ⟨k + 1, by go_num, hlt, HNO, HBM⟩
     case measure => simp [intOf]; omega
   ·obtain rfl : k = n := by omega
    have HY := hdL (show R = true by
     have h1 := hno.out
     rw [tLe (by rw [List.length_map, ← HNE.out.1]; exact Nat.le_refl _), tLe (by rw [List.length_map, ← HNE.out.2]; exact Nat.le_refl _)] at h1
     rw [HR.out]; exact decide_eq_true h1)
    go_wp2_with fail
    go_ret
    exact ⟨by (rw [HY.out]; rfl), hbw.out⟩
 ·have hln : ((n : Int) == (n2 : Int)) = false := by simp; omega
  have HY := hdL (show R = false by rw [HR.out]; refine decide_eq_false (fun e => hl ?_); have := congrArg List.length e; rw [List.length_map, List.length_map, ← HNE.out.1, ← HNE.out.2] at this; exact this)
  go_enter Tryz.func41, Tryz.ntmps41
  go_wp2_with fail
  go_ret
  exact ⟨by (rw [HY.out]; rfl), Below.refl _ _⟩
def RNeedP (es : List EV) (p : Pk) (w : World) (e : Ending) (w' : World) : Prop := Below w.heap.size w w' ∧ ((p ∉ (es.map Prod.fst).map Ent.pkg ∧ e = .returned (.tuple #[.slice none 0 0, .bool false])) ∨
 (p ∈ (es.map Prod.fst).map Ent.pkg ∧ ∃ (a : Option Addr) (c : Nat) (os : List EV), e = .returned (.tuple #[.slice a os.length c, .bool true]) ∧ EntsAt zAll w' (.slice a os.length c) os ∧ os.map Prod.fst = needT (es.map Prod.fst) p))
theorem rneeds_any (w : World) (es : List EV) (l : List Pk) (m : Int) (aL : Option Addr) (cL : Nat) (al : Option Addr) (nl cl : Nat) (h : EntsAt zAll w (.slice aL es.length cL) es) (hle : es.length ≤ 100000) (hg : GoodL (es.map Prod.fst)) (p : Pk) :
  Calls Tryz.prog 70 #[.agg #[.slice aL es.length cL, .slice al nl cl, .int .i64 m], .agg #[strV p.1, .int .i64 p.2.1, .int .i64 p.2.2.1, .int .i64 p.2.2.2]] w (RNeedP es p w) := by
 have hge := fun W (hW : Below w.heap.size w W) => rget16_any W es l m aL cL al nl cl (h.below hW) hle p
 obtain ⟨ne, hne⟩ : ∃ n, n = es.length := ⟨_, rfl⟩
 rw [← hne] at h hle ⊢; simp only [← hne] at hge
 obtain ⟨P, -, hP, -, -⟩ := strV_is p.1
 obtain ⟨v1, hv1⟩ : ∃ z, z = p.2.1 := ⟨_, rfl⟩
 obtain ⟨v2, hv2⟩ : ∃ z, z = p.2.2.1 := ⟨_, rfl⟩
 obtain ⟨v3, hv3⟩ : ∃ z, z = p.2.2.2 := ⟨_, rfl⟩
 rw [hP, ← hv1, ← hv2, ← hv3]
 simp only [hP, ← hv1, ← hv2, ← hv3] at hge
 obtain ⟨w1, hw1, hb1, hx1, y1, y2⟩ := aBk w #[.slice aL ne cL, .slice al nl cl, .int .i64 m] 70
 obtain ⟨w2, hw2, hb2, hx2, y3, y4⟩ := aBk w1 #[.string P, .int .i64 v1, .int .i64 v2, .int .i64 v3] 41
 obtain ⟨b1, hb1e⟩ : ∃ b, w.heap.size = b := ⟨_, rfl⟩
 obtain ⟨b2, hb2e⟩ : ∃ b, w1.heap.size = b := ⟨_, rfl⟩
 have hb12 := hb1.trans (hb2.mono hb1.size)
 have g1 := (hb2.block _ (by omega)).trans hx1
 rw [hb1e] at g1; rw [hb2e] at hx2
 have HGE := hdL (hge w2 hb12); have HE := hdL h; have HB2 := hdL hb12; have HNE := hdL hne; have G12 := hdL g1; have G22 := hdL hx2; have HPS := hdL (And.intro hP (And.intro hv1 (And.intro hv2 hv3))); have HGD := hdL hg
 clear h hne hge hb1 hb2 hb12 g1 hx1 hx2 hP hv1 hv2 hv3 hg y1 y2 y3 y4
 obtain ⟨k0, k1, k2⟩ := cells3 G12.out
 obtain ⟨e0, e1, e2, e3⟩ := cells4 G22.out
 go_enter Tryz.func70, Tryz.ntmps70
 go_wp2_with fail
 refine HGE.out.mono ?_
 intro e w3 hgp
 obtain ⟨h3, ag, cg, he, -⟩ := hgp
 obtain ⟨z, hz⟩ : ∃ z, z = getE (es.map Prod.fst) p := ⟨_, rfl⟩
 rw [← hz] at he
 have his := getE_is (es.map Prod.fst) p
 rw [← hz] at his
 obtain ⟨S, T, p1, p2, p3, sg, t1, t2, t3, n9, hl⟩ := ent_let z.1
 rw [hl.arr, his] at he
 subst he
 obtain ⟨w4, hw4, hb4, hx4, y1, y2⟩ := aBk w3 #[.string S, .int .i64 p1, .int .i64 p2, .int .i64 p3, .int .i64 sg, .string T, .int .i64 t1, .int .i64 t2, .int .i64 t3, .slice ag n9 cg] 45
 obtain ⟨b4, hb4e⟩ : ∃ b, w3.heap.size = b := ⟨_, rfl⟩
 have h24 := h3.trans (hb4.mono h3.size)
 have G14 := hdL ((h24.block _ (loh G12.out)).trans G12.out); have G24 := hdL ((h24.block _ (loh G22.out)).trans G22.out); have HB4 := hdL (HB2.out.trans (h24.mono HB2.out.size))
 clear h3 hz his hl hb4 hx4 h24 k0 k1 k2 e0 e1 e2 e3 y1 y2
 by_cases hpm : p ∈ (es.map Prod.fst).map Ent.pkg
 ·have hdp : decide (p ∈ (es.map Prod.fst).map Ent.pkg) = true := decide_eq_true hpm
  rw [hdp]
  have HPM := hdL hpm; clear hpm hdp
  obtain ⟨iE, hiE, hzE0, hzE1, hzE2⟩ := info_parts infoEnt
  have HI := hdL (And.intro hiE (And.intro hzE0 (And.intro hzE1 hzE2)))
  clear hiE hzE0 hzE1 hzE2
  obtain ⟨k0, k1, k2⟩ := cells3 G14.out
  have hsub : IntKind.i64.wrap ((ne : Int) - 1) = (ne : Int) - 1 := IntWalk.i64_in _ (by omega)
  go_wp2_with fail
  clear k0 k1 k2 hsub
  go_loopw [8, 9] (fun o i wr => ∃ (k : Nat) (os : List EV) (a : Option Addr) (n c : Nat), o = .slice a n c ∧ i = .int .i64 ((k : Int) - 1) ∧ k ≤ ne ∧ n ≤ ne ∧ Hid (n = os.length) ∧ Hid (os.map Prod.fst = tailT (es.map Prod.fst) p k) ∧ Hid (∀ x ∈ os, x ∈ es) ∧ Hid (ownsC wr w.heap.size 45 10 (.slice a n c) n (os.flatMap entL)) ∧ Hid (Below w4.heap.size w4 wr)) (fun _ i _ => (intOf i + 1).toNat)
  case atStart => exact ⟨ne, [], none, 0, 0, rfl, rfl, Nat.le_refl _, Nat.zero_le _, hdL rfl, hdL (by rw [tailT_end (by rw [List.length_map, ← HNE.out]; exact Nat.le_refl _)]; rfl), hdL (fun x hx => by cases hx), hdL (ownsC_nil _ _ _ _), hdL (Below.refl _ _)⟩
  case round =>
   obtain ⟨k, os, a, n, c, rfl, rfl, hk, hn, hnl, hos, hsb, how, hbw⟩ := hrel
   obtain ⟨W0, hW0⟩ : ∃ W, W = wr := ⟨_, rfl⟩
   subst hW0
   have hBW : Below w.heap.size w W0 := HB4.out.trans (hbw.out.mono HB4.out.size)
   have g1 := (hbw.out.block _ (loh G14.out)).trans G14.out
   have g2 := (hbw.out.block _ (loh G24.out)).trans G24.out
   have HBW := hdL hBW; clear hBW
   cases k with
   | zero =>
    clear g1 g2
    go_wp2_with fail
    go_ret2
    refine ⟨HBW.out, .inr ⟨HPM.out, a, c, os, by rw [← hnl.out]; rfl, ?_, by rw [hos.out, tailT_zero]⟩⟩
    rw [← hnl.out]
    exact own_ents how.out hnl.out (by omega) hsb.out HE.out HBW.out
   | succ j =>
    have hj : (((j + 1 : Nat) : Int) - 1) = (j : Int) := by omega
    rw [hj]
    obtain ⟨x, hx⟩ : ∃ x, es[j]? = some x := ⟨_, gEg (by rw [← HNE.out]; omega)⟩
    obtain ⟨b, o, S', T', rfl, hS', hT', hwx, c0, c1, c2, c3, c4, c5, c6, c7, c8, c9⟩ := (HE.out.below HBW.out).cells hx
    obtain ⟨S, T, p1, p2, p3, sg, t1, t2, t3, n9, hl⟩ := ent_let x.1
    obtain rfl : S' = S := by rw [hl.s] at hS'; injection hS' with hS'; exact hS'.symm
    obtain rfl : T' = T := by rw [hl.t] at hT'; injection hT' with hT'; exact hT'.symm
    rw [← hl.p.1] at c1; rw [← hl.p.2.1] at c2; rw [← hl.p.2.2] at c3; rw [← hl.g] at c4; rw [← hl.c.1] at c6; rw [← hl.c.2.1] at c7; rw [← hl.c.2.2] at c8; rw [← hl.n] at c9
    obtain ⟨ax, hax⟩ : ∃ y, y = x.2.1 := ⟨_, rfl⟩
    obtain ⟨cx, hcx⟩ : ∃ y, y = x.2.2 := ⟨_, rfl⟩
    rw [← hax, ← hcx] at c9
    have heq := eqPk2 x.1.pkg p hl.s HPS.out.1
    rw [← hl.p.1, ← hl.p.2.1, ← hl.p.2.2, ← HPS.out.2.1, ← HPS.out.2.2.1, ← HPS.out.2.2.2] at heq
    obtain ⟨nb0, hnb0⟩ : ∃ b, b = decide (x.1.pkg = p) := ⟨_, rfl⟩
    rw [← hnb0] at heq
    obtain ⟨w5, hw5, hb5, hx5, y1, y2⟩ := aBk W0 #[.string S', .int .i64 p1, .int .i64 p2, .int .i64 p3, .int .i64 sg, .string T', .int .i64 t1, .int .i64 t2, .int .i64 t3, .slice ax n9 cx] 45
    obtain ⟨b5, hb5e⟩ : ∃ b, W0.heap.size = b := ⟨_, rfl⟩
    rw [hb5e] at hx5
    have g25 := (hb5.block _ (loh g2)).trans g2
    have hstep := tailT_step HGD.out p (k := j) (e := x.1) (by rw [List.getElem?_map, hx]; rfl)
    rw [← hos.out] at hstep
    have hxm := List.mem_of_getElem? hx
    have HX := hdL hxm; have HST := hdL hstep; have HL := hdL hl; have HAX := hdL (And.intro hax hcx); have HNB := hdL hnb0; have HB5 := hdL hb5; have HX5 := hdL hx5; have HOW5 := hdL (ownsC_below how.out hb5)
    clear hx hxm hstep hwx hS' hT' hl hax hcx hnb0 hb5 g2 hj y1 y2
    obtain ⟨q0, q1, q2, q3, q4, q5, q6, q7, q8, q9⟩ := cells10 hx5
    obtain ⟨e0, e1, e2, e3⟩ := cells4 g25
    obtain ⟨k0, k1, k2⟩ := cells3 g1
    clear hx5 g1 g25
    go_wp2_with fail
    clear heq q0 q1 q2 q3 q4 q5 q6 q7 q8 q9 e0 e1 e2 e3 k0 k1 k2 c0 c1 c2 c3 c4 c5 c6 c7 c8 c9
    go_loopw [11, 41] (fun bv i wr => ∃ (i0 : Nat) (nb : Bool), bv = .bool nb ∧ i = .int .i64 i0 ∧ i0 ≤ n ∧ Hid (nb = (nb0 || (os.take i0).any fun y => usesB y.1 x.1.pkg)) ∧ Hid (Below w5.heap.size w5 wr)) (fun _ i _ => n - (intOf i).toNat)
    case atStart => exact ⟨0, nb0, rfl, rfl, Nat.zero_le _, hdL (by simp), hdL (Below.refl _ _)⟩
    case round =>
     obtain ⟨i0, nb, rfl, rfl, hi0, hnb, hbv⟩ := hrel
     obtain ⟨V0, hV0⟩ : ∃ W, W = wr := ⟨_, rfl⟩
     subst hV0
     have hx5 := (hbv.out.block _ (loh HX5.out)).trans HX5.out
     have HBV := hdL (HBW.out.trans ((HB5.out.trans (hbv.out.mono HB5.out.size)).mono HBW.out.size))
     by_cases hlt : i0 < n
     ·have hents := own_ents (ownsC_below HOW5.out hbv.out) hnl.out (by omega) hsb.out HE.out HBV.out
      obtain ⟨y, hy⟩ : ∃ y, os[i0]? = some y := ⟨_, gEg (by rw [← hnl.out]; exact hlt)⟩
      obtain ⟨b, o, S2', T2', rfl, hS2', hT2', hwy, d0, d1, d2, d3, d4, d5, d6, d7, d8, d9⟩ := hents.cells hy
      obtain ⟨S2, T2, q1, q2, q3, sh, u1, u2, u3, m9, hm⟩ := ent_let y.1
      obtain rfl : S2' = S2 := by rw [hm.s] at hS2'; injection hS2' with hS2'; exact hS2'.symm
      obtain rfl : T2' = T2 := by rw [hm.t] at hT2'; injection hT2' with hT2'; exact hT2'.symm
      rw [← hm.p.1] at d1; rw [← hm.p.2.1] at d2; rw [← hm.p.2.2] at d3; rw [← hm.g] at d4; rw [← hm.c.1] at d6; rw [← hm.c.2.1] at d7; rw [← hm.c.2.2] at d8; rw [← hm.n] at d9
      obtain ⟨ay, hay⟩ : ∃ z, z = y.2.1 := ⟨_, rfl⟩
      obtain ⟨cy, hcy⟩ : ∃ z, z = y.2.2 := ⟨_, rfl⟩
      rw [← hay, ← hcy] at d9
      obtain ⟨w6, hw6, hb6, hx6, z1, z2⟩ := aBk V0 #[.string S2', .int .i64 q1, .int .i64 q2, .int .i64 q3, .int .i64 sh, .string T2', .int .i64 u1, .int .i64 u2, .int .i64 u3, .slice ay m9 cy] 45
      obtain ⟨b6, hb6e⟩ : ∃ b, V0.heap.size = b := ⟨_, rfl⟩
      rw [hb6e] at hx6
      have h56 := (hb6.block _ (loh hx5)).trans hx5
      have hru := ruses_any w6 y.1 y.2.1 y.2.2 zAll (hwy.below hb6) x.1.pkg
      rw [hm.arr, HL.out.s, ← HL.out.p.1, ← HL.out.p.2.1, ← HL.out.p.2.2, ← hay, ← hcy] at hru
      obtain ⟨r, hr⟩ : ∃ r, r = usesB y.1 x.1.pkg := ⟨_, rfl⟩
      rw [← hr] at hru
      have htk : (os.take (i0 + 1)).any (fun y => usesB y.1 x.1.pkg) = ((os.take i0).any (fun y => usesB y.1 x.1.pkg) || r) := by rw [List.take_add_one, hy, hr]; simp
      have HRU := hdL hru; have HTK := hdL htk; have HB6 := hdL (hbv.out.trans (hb6.mono hbv.out.size)); have H56 := hdL h56
      clear hents hy hS2' hT2' hwy hm hay hcy hru hr htk hb6 hx5
      obtain ⟨f0, f1, f2, f3, f4, f5, f6, f7, f8, f9⟩ := cells10 hx6
      obtain ⟨q0, q1, q2, q3, q4, q5, q6, q7, q8, q9⟩ := cells10 h56
      clear hx6 h56
      cases nb
      ·go_wp2_with fail
       refine HRU.out.mono ?_
       rintro e w7 ⟨rfl, h7⟩
       have HB7 := hdL (HB6.out.trans (h7.mono HB6.out.size)); clear h7
       go_wp2_with fail
       go_roundw
       case rel => exact ⟨i0 + 1, r, rfl, by go_num, hlt, hdL (by rw [HTK.out, ← Bool.or_assoc, ← hnb.out, Bool.false_or]), HB7⟩
       case measure => first | (simp [intOf]; done) | (simp [intOf]; omega)
      ·go_wp2_with fail
       go_roundw
       case rel => exact ⟨i0 + 1, true, rfl, by go_num, hlt, hdL (by rw [HTK.out, ← Bool.or_assoc, ← hnb.out, Bool.true_or]), HB6⟩
       case measure => first | (simp [intOf]; done) | (simp [intOf]; omega)
     ·obtain rfl : i0 = n := by omega
      have hneed : (decide (x.1.pkg = p) || (os.map Prod.fst).any fun y => usesB y x.1.pkg) = nb := by
       have h1 := hnb.out
       rw [tLe (by rw [← hnl.out]; exact Nat.le_refl _), HNB.out] at h1
       rw [h1, List.any_map]; rfl
      have hsubj : IntKind.i64.wrap ((j : Int) - 1) = (j : Int) - 1 := IntWalk.i64_in _ (by omega)
      have HBV4 := hdL (hbw.out.trans ((HB5.out.trans (hbv.out.mono HB5.out.size)).mono hbw.out.size))
      have HOWV := hdL (ownsC_below HOW5.out hbv.out)
      have HND := hdL hneed; clear hneed
      cases nb
      ·clear hx5
       go_wp2_with fail
       go_roundw
       case rel => exact ⟨j, os, a, i0, c, rfl, rfl, by omega, hn, hnl, hdL (by rw [HST.out, stepR_no HND.out]), hsb, HOWV, HBV4⟩
       case measure => first | (simp [intOf]; done) | (simp [intOf]; omega)
      ·have hri := rin17_any V0 zAll _ os (own_ents HOWV.out hnl.out (by omega) hsb.out HE.out HBV.out) x.1.pkg
       rw [HL.out.s, ← HL.out.p.1, ← HL.out.p.2.1, ← HL.out.p.2.2] at hri
       obtain ⟨r, hr⟩ : ∃ r, r = os.any (fun y => decide (y.1.pkg = x.1.pkg)) := ⟨_, rfl⟩
       rw [← hr] at hri
       have hr2 : ((os.map Prod.fst).any fun y => decide (y.pkg = x.1.pkg)) = r := by rw [hr, List.any_map]; rfl
       have HRI := hdL hri; have HR2 := hdL hr2; clear hri hr hr2
       obtain ⟨q0, q1, q2, q3, q4, q5, q6, q7, q8, q9⟩ := cells10 hx5
       have HX5V := hdL hx5; clear hx5
       go_wp2_with fail
       refine HRI.out.mono ?_
       rintro e w7 ⟨rfl, h7⟩
       have HB7 := hdL (HBV4.out.trans (h7.mono HBV4.out.size)); have HOW7 := hdL (ownsC_below HOWV.out h7); have HX7 := hdL ((h7.block _ (loh HX5V.out)).trans HX5V.out); clear h7 q0 q1 q2 q3 q4 q5 q6 q7 q8 q9
       cases r
       ·obtain ⟨w8, hw8, hb8, hx8, z1, z2⟩ := aBk w7 #[.string S', .int .i64 p1, .int .i64 p2, .int .i64 p3, .int .i64 sg, .string T', .int .i64 t1, .int .i64 t2, .int .i64 t3, .slice ax n9 cx] 45
        obtain ⟨b8, hb8e⟩ : ∃ b, w7.heap.size = b := ⟨_, rfl⟩
        rw [hb8e] at hx8
        have hxx : (x.1, (ax, cx)) = x := by rw [HAX.out.1, HAX.out.2]
        have hxe := HL.out.arr ax cx
        rw [hxx] at hxe
        rw [← hxe] at hx8
        have hbase : w.heap.size ≤ b8 := by have h1 := HB4.out.size; have h2 := HB7.out.size; omega
        have hsrc := (own_ents (ownsC_below HOW7.out hb8) hnl.out (by omega) hsb.out HE.out (HB4.out.trans ((HB7.out.trans (hb8.mono HB7.out.size)).mono HB4.out.size))).src
        rw [← hnl.out] at hsrc
        have HBX := hdL (box_ent hbase hx8); have HSR := hdL hsrc; have HB8 := hdL hb8; have HB8E := hdL (show w.heap.size ≤ w8.heap.size ∧ w7.heap.size = b8 from ⟨by have := hb8.size; omega, hb8e⟩)
        clear hb8 hx8 hxe hxx hbase hsrc z1 z2
        obtain ⟨q0, q1, q2, q3, q4, q5, q6, q7, q8, q9⟩ := cells10 HX7.out
        go_wp2_with (first | (at_builtin; refine wpList_append_c rfl (.tmp 62) (.tmp 63) 68 68 rfl w.heap.size 45 iE _ 10 112 Tryz.underlying68 HI.out.1 HI.out.2.1 HI.out.2.2.1 HI.out.2.2.2 rfl (.slice (some ⟨b8, 0, none⟩) 1 1) rfl 1 _ HBX.out (.slice a i0 c) rfl i0 _ HSR.out (by unfold maxLen; omega) (by omega) HB8E.out.1 ?_; intro a' c' w9 ho hgr hwx; have HO := hdL ho; have HG := hdL hgr; have HW := hdL hwx; clear ho hgr hwx) | fail)
        go_roundw
        case rel =>
         refine ⟨j, x :: os, a', i0 + 1, c', ?_, rfl, by omega, ?_, hdL ?_, hdL ?_, hdL ?_, hdL ?_, hdL ?_⟩
         ·rw [Nat.add_comm i0 1]
         ·have h1 := tailT_len (es.map Prod.fst) p j; rw [HST.out, stepR_yes HND.out HR2.out, List.length_cons, List.length_map, List.length_map, ← hnl.out, ← HNE.out] at h1; exact h1
         ·rw [List.length_cons, ← hnl.out]
         ·rw [HST.out, stepR_yes HND.out HR2.out]; rfl
         ·intro z hz
          rcases List.mem_cons.1 hz with rfl | hz
          ·exact HX.out
          ·exact hsb.out z hz
         ·have h1 := HO.out; rw [Nat.add_comm 1 i0] at h1; rw [List.flatMap_cons]; exact h1
         ·have h1 := HB7.out.trans (HB8.out.mono HB7.out.size)
          exact h1.grown HG.out h1.size (fun g hg => by obtain rfl : b8 = g := (by simpa [Value.ownBlock] using hg); have := HB8E.out.2; have := HB7.out.size; omega)
        case measure => first | (simp [intOf]; done) | (simp [intOf]; omega)
       ·go_wp2_with fail
        go_roundw
        case rel => exact ⟨j, os, a, i0, c, rfl, rfl, by omega, hn, hnl, hdL (by rw [HST.out, stepR_in HR2.out]), hsb, HOW7, HB7⟩
        case measure => first | (simp [intOf]; done) | (simp [intOf]; omega)
 ·have hdp : decide (p ∈ (es.map Prod.fst).map Ent.pkg) = false := decide_eq_false hpm
  rw [hdp]
  have HPM := hdL hpm; clear hpm hdp
  go_wp2_with fail
  go_ret2
  exact ⟨HB4.out, .inl ⟨HPM.out, rfl⟩⟩
def RPlanP (r : List Ent × List Pk × Int) (w : World) (e : Ending) (w' : World) : Prop := Below w.heap.size w w' ∧ ∃ (a : Option Addr) (c : Nat) (os : List EV) (al : Option Addr) (cl : Nat), e = .returned (.tuple #[.slice a os.length c, .slice al r.2.1.length cl, .int .i64 r.2.2]) ∧ EntsAt zAll w' (.slice a os.length c) os ∧ os.map Prod.fst = r.1 ∧ PkgsAt zAll w' (.slice al r.2.1.length cl) r.2.1
theorem rplanP_no {w w' : World} {e0 : Int} (h : Below w.heap.size w w') : RPlanP ([], [], e0) w (.returned (.tuple #[.slice none 0 0, .slice none 0 0, .int .i64 e0])) w' :=
 ⟨h, none, 0, [], none, 0, rfl, EntsAt.nil, rfl, PkgsAt.nil⟩
theorem rmake17_any (w : World) (v : Value) (st : St) (h : RefAt zAll w v st) (hs : st.seeds.length ≤ 8) (hr : st.recs.length ≤ 32) (hg : ∀ r ∈ st.recs, goodRc r = true) (left : Int) (hl : left ≤ 2000) (p : Pk) :
  Calls Tryz.prog 39 #[v, .agg #[strV p.1, .int .i64 p.2.1, .int .i64 p.2.2.1, .int .i64 p.2.2.2], .int .i64 left] w (RPlanP (planT st p left) w) := by
 obtain ⟨a1, n1, c1, a2, n2, c2, rfl⟩ := refShape h
 have hhs := fun W (hW : Below w.heap.size w W) => rhas2_any W zAll _ st (h.below hW) p
 have hfx := fun W (hW : Below w.heap.size w W) => rfix_any W _ st (h.below hW) hs hr hg left hl
 obtain ⟨P, -, hP, -, -⟩ := strV_is p.1
 obtain ⟨v1, hv1⟩ : ∃ z, z = p.2.1 := ⟨_, rfl⟩
 obtain ⟨v2, hv2⟩ : ∃ z, z = p.2.2.1 := ⟨_, rfl⟩
 obtain ⟨v3, hv3⟩ : ∃ z, z = p.2.2.2 := ⟨_, rfl⟩
 rw [hP, ← hv1, ← hv2, ← hv3]
 simp only [hP, ← hv1, ← hv2, ← hv3] at hhs
 obtain ⟨w1, hw1, hb1, hx1, y1, y2⟩ := aBk w #[.slice a1 n1 c1, .slice a2 n2 c2] 28
 obtain ⟨w2, hw2, hb2, hx2, y3, y4⟩ := aBk w1 #[.string P, .int .i64 v1, .int .i64 v2, .int .i64 v3] 41
 obtain ⟨b1, hb1e⟩ : ∃ b, w.heap.size = b := ⟨_, rfl⟩
 obtain ⟨b2, hb2e⟩ : ∃ b, w1.heap.size = b := ⟨_, rfl⟩
 have hb12 := hb1.trans (hb2.mono hb1.size)
 have g1 := (hb2.block _ (by omega)).trans hx1
 rw [hb1e] at g1; rw [hb2e] at hx2
 have HHS := hdL (hhs w2 hb12); have HFX := hdL hfx; have HB2 := hdL hb12; have G12 := hdL g1; have G22 := hdL hx2; have HPS := hdL (And.intro hP (And.intro hv1 (And.intro hv2 hv3)))
 clear h hs hr hg hhs hfx hb1 hb2 hb12 g1 hx1 hx2 hP hv1 hv2 hv3 y1 y2 y3 y4
 obtain ⟨k0, k1⟩ := cells2 G12.out
 obtain ⟨e0, e1, e2, e3⟩ := cells4 G22.out
 go_enter Tryz.func39, Tryz.ntmps39
 go_wp2_with fail
 refine HHS.out.mono ?_
 rintro e w3 ⟨rfl, h3⟩
 have G13 := hdL ((h3.block _ (loh G12.out)).trans G12.out); have G23 := hdL ((h3.block _ (loh G22.out)).trans G22.out); have HB3 := hdL (HB2.out.trans (h3.mono HB2.out.size))
 clear h3 k0 k1 e0 e1 e2 e3
 cases hh : st.has p
 ·have HPL := hdL (planT_none (left := left) hh); clear hh
  go_wp2_with fail
  go_ret3
  rw [HPL.out]
  exact rplanP_no HB3.out
 ·have HH := hdL hh; clear hh
  obtain ⟨k0, k1⟩ := cells2 G13.out
  go_wp2_with fail
  refine (HFX.out w3 HB3.out).mono ?_
  intro e w4 hrf
  obtain ⟨h4, es, l, m, e0, aL, cL, al, cl, rfl, hE, hP4, ⟨hlE, hll, -⟩, hcs⟩ := hrf
  obtain ⟨nE, hnE⟩ : ∃ n, n = es.length := ⟨_, rfl⟩
  obtain ⟨nl, hnl⟩ : ∃ n, n = l.length := ⟨_, rfl⟩
  rw [← hnE] at hE hlE ⊢; rw [← hnl] at hP4 hll ⊢
  obtain ⟨w5, hw5, hb5, hx5, y1, y2⟩ := aBk w4 #[.slice aL nE cL, .slice al nl cl, .int .i64 m] 70
  obtain ⟨b5, hb5e⟩ : ∃ b, w4.heap.size = b := ⟨_, rfl⟩
  rw [hb5e] at hx5
  have h35 := h4.trans (hb5.mono h4.size)
  have G25 := hdL ((h35.block _ (loh G23.out)).trans G23.out); have HB5 := hdL (HB3.out.trans (h35.mono HB3.out.size))
  have HE5 := hdL (hE.all.below hb5); have HP5 := hdL ((hP4.keep (Z' := zAll) ⟨fun _ _ _ => trivial, Nat.le_refl _, fun _ _ _ h => h⟩).below hb5); have HCS := hdL hcs; have HNE := hdL (And.intro hnE hnl); have HX5 := hdL hx5
  clear h4 hE hP4 hcs hnE hnl hb5 hx5 h35 k0 k1 y1 y2
  by_cases hz : e0 = 0
  ·subst hz
   obtain ⟨-, hfx⟩ : (0 : Int) = 0 ∧ fixT st left = some (es.map Prod.fst, l, m) := by rcases HCS.out with ⟨-, h1, -⟩ | h1; cases h1; exact h1
   have hnd := rneeds_any w5 es l m aL cL al nl cl (by rw [← HNE.out.1]; exact HE5.out) (by rw [← HNE.out.1]; exact hlE) (fixT_good hfx) p
   rw [← HNE.out.1, HPS.out.1, ← HPS.out.2.1, ← HPS.out.2.2.1, ← HPS.out.2.2.2] at hnd
   have HND := hdL hnd; have HF := hdL hfx; clear hnd hfx
   obtain ⟨k0, k1, k2⟩ := cells3 HX5.out
   obtain ⟨e0, e1, e2, e3⟩ := cells4 G25.out
   go_wp2_with fail
   refine HND.out.mono ?_
   intro e w6 hnp
   obtain ⟨h6, ⟨hpm, rfl⟩ | ⟨hpm, a, c, os, rfl, hos, hmap⟩⟩ := hnp
   ·have HPL := hdL (planT_less HH.out HF.out hpm); have HP6 := hdL (HP5.out.below h6); have G6 := hdL ((h6.block _ (loh HX5.out)).trans HX5.out); have HB6 := hdL (HB5.out.trans (h6.mono HB5.out.size))
    clear h6 hpm k0 k1 k2 e0 e1 e2 e3
    obtain ⟨k0, k1, k2⟩ := cells3 G6.out
    go_wp2_with fail
    go_quiet (fail)
    go_wp2_with fail
    go_ret3
    rw [HPL.out]
    exact ⟨Below.drewN HB6.out _, none, 0, [], al, cl, by dsimp only; rw [← HNE.out.2]; rfl, EntsAt.nil, rfl, by dsimp only; rw [← HNE.out.2]; exact HP6.out.below (Below.drewN (Below.refl _ _) _)⟩
   ·have HPL := hdL (planT_need HH.out HF.out hpm); have HOS := hdL hos; have HMP := hdL hmap; have HB6 := hdL (HB5.out.trans (h6.mono HB5.out.size))
    obtain ⟨no, hno⟩ : ∃ n, n = os.length := ⟨_, rfl⟩
    rw [← hno]
    have HNO := hdL hno
    clear h6 hpm hos hmap hno k0 k1 k2 e0 e1 e2 e3
    go_wp2_with fail
    go_ret3
    rw [HPL.out]
    exact ⟨HB6.out, a, c, os, none, 0, by rw [← HNO.out]; rfl, HOS.out, HMP.out, PkgsAt.nil⟩
  ·obtain ⟨hfx, rfl⟩ : fixT st left = none ∧ e0 = 60 := by rcases HCS.out with ⟨h1, h2, -⟩ | ⟨h1, -⟩; exact ⟨h1, h2⟩; exact absurd h1 hz
   have HPL := hdL (planT_out HH.out hfx); clear hfx hz
   go_wp2_with fail
   go_ret3
   rw [HPL.out]
   exact rplanP_no HB5.out
end Go.Proofs.YtaagkndhgicifaaGreat
