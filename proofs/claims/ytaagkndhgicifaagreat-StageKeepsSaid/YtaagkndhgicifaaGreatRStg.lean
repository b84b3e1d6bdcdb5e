/- DERIVED. The reference's stages: Pool, Get, Same, walked. (Printed by rstggen.py.) -/
import Derived.Test.YtaagkndhgicifaaGreatStgGet
import Derived.Test.YtaagkndhgicifaaGreatSv13
namespace Go.Proofs.YtaagkndhgicifaaGreat
set_option maxHeartbeats 32000000
open Go.RowKit Go.Shelf
set_option linter.unusedVariables false
set_option linter.unusedSimpArgs false
set_option maxRecDepth 100000
def entEq (x y : Ent) : Bool := decide (x.pkg = y.pkg) && (decide (x.stage = y.stage) && decide (x.choice = y.choice))
theorem entEq_iff {x y : Ent} : entEq x y = true ↔ x = y := by
 unfold entEq
 rw [Bool.and_eq_true, Bool.and_eq_true, decide_eq_true_eq, decide_eq_true_eq, decide_eq_true_eq]
 constructor
 ·rintro ⟨h1, h2, h3⟩
  cases x; cases y; dsimp only at h1 h2 h3; subst h1 h2 h3; rfl
 ·rintro rfl; exact ⟨rfl, rfl, rfl⟩
theorem rsame16_any (w : World) (x y : Ent) (a a2 : Option Addr) (c c2 : Nat) (Z Z2 : Zone) (h : PkgsAt Z w (.slice a x.choice.2.length c) x.choice.2) (h2 : PkgsAt Z2 w (.slice a2 y.choice.2.length c2) y.choice.2) :
  Calls Tryz.prog 32 #[.agg (entL (x, (a, c))).toArray, .agg (entL (y, (a2, c2))).toArray] w (fun e w' => e = .returned (.bool (entEq x y)) ∧ Below w.heap.size w w') := by
 obtain ⟨S, T, p1, p2, p3, sg, t1, t2, t3, n9, hx⟩ := ent_let x
 obtain ⟨S2, T2, q1, q2, q3, sh, u1, u2, u3, m9, hy⟩ := ent_let y
 rw [hx.arr, hy.arr]
 have hsm := fun W (hW : Below w.heap.size w W) => rsameC_any W x.choice y.choice Z _ (h.below hW) Z2 _ (h2.below hW)
 rw [hx.t, hy.t, ← hx.c.1, ← hx.c.2.1, ← hx.c.2.2, ← hy.c.1, ← hy.c.2.1, ← hy.c.2.2, ← hx.n, ← hy.n] at hsm
 have hgo := eqPk2 x.pkg y.pkg hx.s hy.s
 rw [← hx.p.1, ← hx.p.2.1, ← hx.p.2.2, ← hy.p.1, ← hy.p.2.1, ← hy.p.2.2] at hgo
 obtain ⟨R, hR⟩ : ∃ R, R = entEq x y := ⟨_, rfl⟩
 rw [← hR]
 unfold entEq at hR
 rw [← hx.g, ← hy.g] at hR
 obtain ⟨r1, hr1⟩ : ∃ t, t = decide (x.pkg = y.pkg) := ⟨_, rfl⟩
 obtain ⟨r2, hr2⟩ : ∃ t, t = decide (x.choice = y.choice) := ⟨_, rfl⟩
 rw [← hr1] at hgo hR; rw [← hr2] at hsm hR
 obtain ⟨w0, hw0, hb0, hx0, y1, y2⟩ := aBk w #[.string S, .int .i64 p1, .int .i64 p2, .int .i64 p3, .int .i64 sg, .string T, .int .i64 t1, .int .i64 t2, .int .i64 t3, .slice a n9 c] 45
 obtain ⟨w1, hw1, hb1, hx1, y3, y4⟩ := aBk w0 #[.string S2, .int .i64 q1, .int .i64 q2, .int .i64 q3, .int .i64 sh, .string T2, .int .i64 u1, .int .i64 u2, .int .i64 u3, .slice a2 m9 c2] 45
 obtain ⟨B1, hB1⟩ : ∃ b, w0.heap.size = b := ⟨_, rfl⟩
 have g0 := (hb1.block _ (by omega)).trans hx0
 rw [hB1] at hx1
 obtain ⟨s0, s1, s2, s3, s4, s5, s6, s7, s8, s9⟩ := cells10 g0
 obtain ⟨e0, e1, e2, e3, e4, e5, e6, e7, e8, e9⟩ := cells10 hx1
 have HB := hdL (hb0.trans (hb1.mono hb0.size))
 have HSM := hdL (hsm w1 HB.out); have HR := hdL hR
 clear h h2 hsm hR hx hy hr1 hr2 hb0 hb1 hx0 hx1 g0 y1 y2 y3 y4
 cases r1
 ·go_enter Tryz.func32, Tryz.ntmps32
  go_wp2_with fail
  go_ret
  exact ⟨by rw [HR.out]; rfl, HB.out⟩
 ·by_cases hg : sg = sh
  ·have hq : ((sg : Int) == sh) = true := by simp; exact hg
   have HG := hdL hg; clear hg
   go_enter Tryz.func32, Tryz.ntmps32
   go_wp2_with fail
   refine HSM.out.mono ?_
   rintro e w2 ⟨rfl, h2⟩
   have H2 := hdL (HB.out.trans (h2.mono HB.out.size))
   clear h2
   go_wp2_with fail
   go_ret
   exact ⟨by rw [HR.out, decide_eq_true HG.out]; rfl, H2.out⟩
  ·have hq : ((sg : Int) == sh) = false := by simp; exact hg
   have HG := hdL hg; clear hg
   go_enter Tryz.func32, Tryz.ntmps32
   go_wp2_with fail
   go_ret
   exact ⟨by rw [HR.out, decide_eq_false HG.out]; rfl, HB.out⟩
end Go.Proofs.YtaagkndhgicifaaGreat
