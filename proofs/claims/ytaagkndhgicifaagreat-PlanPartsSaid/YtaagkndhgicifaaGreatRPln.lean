/- DERIVED. The reference's plans: in, uses, Needs, Same, Make, walked. (Printed by rplngen.py.) -/
import Derived.Test.YtaagkndhgicifaaGreatStgBeg0
import Derived.Test.YtaagkndhgicifaaGreatPlnMem
namespace Go.Proofs.YtaagkndhgicifaaGreat
set_option maxHeartbeats 32000000
open Go.RowKit Go.Shelf
set_option linter.unusedVariables false
set_option linter.unusedSimpArgs false
set_option maxRecDepth 100000
def samesE (a b : List Ent) : Bool := decide (a = b)
theorem samesE_ne {a b : List Ent} {k : Nat} {x y : Ent} (ha : a[k]? = some x) (hb : b[k]? = some y) (h : entEq x y = false) : a ≠ b := by
 rintro rfl
 rw [ha] at hb
 obtain rfl := sIj hb
 rw [entEq_iff.2 rfl] at h
 cases h
theorem takes_eq {a b : List Ent} {k : Nat} {x y : Ent} (ha : a[k]? = some x) (hb : b[k]? = some y) (h : entEq x y = true) (ht : a.take k = b.take k) : a.take (k + 1) = b.take (k + 1) := by
 rw [List.take_add_one, List.take_add_one, ha, hb, ht, entEq_iff.1 h]
theorem rsame17_any (w : World) (Z Z2 : Zone) (v v2 : Value) (es fs : List EV) (h : EntsAt Z w v es) (h2 : EntsAt Z2 w v2 fs) :
  Calls Tryz.prog 41 #[v, v2] w (fun e w' => e = .returned (.bool (decide (es.map Prod.fst = fs.map Prod.fst))) ∧ Below w.heap.size w w') := by
 obtain ⟨a, c, rfl, hb, -⟩ := id h
 obtain ⟨a2, c2, rfl, hb2, -⟩ := id h2
 obtain ⟨n, hnn⟩ : ∃ n, n = es.length := ⟨_, rfl⟩
 obtain ⟨n2, hnn2⟩ : ∃ n, n = fs.length := ⟨_, rfl⟩
 obtain ⟨R, hR⟩ : ∃ R, R = decide (es.map Prod.fst = fs.map Prod.fst) := ⟨_, rfl⟩
 rw [← hR]
 rw [← hnn] at hb h ⊢; rw [← hnn2] at hb2 h2 ⊢
 have hnl : n ≤ 8796093022208 := hb.max
 have hnl2 : n2 ≤ 8796093022208 := hb2.max
 have HE := hdL h; have HF := hdL h2; have HNE := hdL (And.intro hnn hnn2); have HR := hdL hR
 clear h h2 hb hb2 hnn hnn2 hR
 by_cases hl : n = n2
 ·subst hl
  go_enter Tryz.func41, Tryz.ntmps41
  go_wp2_with fail
  go_loopw [13] (fun x wr => ∃ k : Nat, x = .int .i64 k ∧ k ≤ n ∧ Hid ((es.map Prod.fst).take k = (fs.map Prod.fst).take k) ∧ Hid (Below w.heap.size w wr)) (fun x _ => n - (intOf x).toNat)
  case atStart => exact ⟨0, rfl, Nat.zero_le _, hdL rfl, Below.refl _ _⟩
  case round =>
   obtain ⟨k, rfl, hk, hno, hbw⟩ := hrel
   obtain ⟨W0, hW0⟩ : ∃ W, W = wr := ⟨_, rfl⟩
   subst hW0
   by_cases hlt : k < n
   ·obtain ⟨x, hx⟩ : ∃ x, es[k]? = some x := ⟨_, gEg (by rw [← HNE.out.1]; exact hlt)⟩
    obtain ⟨y, hy⟩ : ∃ y, fs[k]? = some y := ⟨_, gEg (by rw [← HNE.out.2]; exact hlt)⟩
    obtain ⟨b, o, S', T', rfl, hS', hT', hwx, c0, c1, c2, c3, c4, c5, c6, c7, c8, c9⟩ := (HE.out.below hbw.out).cells hx
    obtain ⟨S, T, p1, p2, p3, sg, t1, t2, t3, n9, hl⟩ := ent_let x.1
    obtain rfl : S' = S := by rw [hl.s] at hS'; injection hS' with hS'; exact hS'.symm
    obtain rfl : T' = T := by rw [hl.t] at hT'; injection hT' with hT'; exact hT'.symm
    rw [← hl.p.1] at c1; rw [← hl.p.2.1] at c2; rw [← hl.p.2.2] at c3; rw [← hl.g] at c4; rw [← hl.c.1] at c6; rw [← hl.c.2.1] at c7; rw [← hl.c.2.2] at c8; rw [← hl.n] at c9
    obtain ⟨ax, hax⟩ : ∃ y, y = x.2.1 := ⟨_, rfl⟩
    obtain ⟨cx, hcx⟩ : ∃ y, y = x.2.2 := ⟨_, rfl⟩
    rw [← hax, ← hcx] at c9
    obtain ⟨b2, o2, S2', T2', rfl, hS2', hT2', hwy, d0, d1, d2, d3, d4, d5, d6, d7, d8, d9⟩ := (HF.out.below hbw.out).cells hy
    obtain ⟨S2, T2, q1, q2, q3, sh, u1, u2, u3, m9, hm⟩ := ent_let y.1
    obtain rfl : S2' = S2 := by rw [hm.s] at hS2'; injection hS2' with hS2'; exact hS2'.symm
    obtain rfl : T2' = T2 := by rw [hm.t] at hT2'; injection hT2' with hT2'; exact hT2'.symm
    rw [← hm.p.1] at d1; rw [← hm.p.2.1] at d2; rw [← hm.p.2.2] at d3; rw [← hm.g] at d4; rw [← hm.c.1] at d6; rw [← hm.c.2.1] at d7; rw [← hm.c.2.2] at d8; rw [← hm.n] at d9
    obtain ⟨ay, hay⟩ : ∃ z, z = y.2.1 := ⟨_, rfl⟩
    obtain ⟨cy, hcy⟩ : ∃ z, z = y.2.2 := ⟨_, rfl⟩
    rw [← hay, ← hcy] at d9
    have hsm := fun W (hW : Below W0.heap.size W0 W) => rsame16_any W x.1 y.1 x.2.1 y.2.1 x.2.2 y.2.2 Z Z2 (hwx.below hW) (hwy.below hW)
    simp only [hl.arr, hm.arr, ← hax, ← hcx, ← hay, ← hcy] at hsm
    obtain ⟨r, hr⟩ : ∃ r, r = entEq x.1 y.1 := ⟨_, rfl⟩
    rw [← hr] at hsm
    have HSM := hdL hsm; have HXY := hdL (And.intro hx hy); have HRR := hdL hr
    clear hx hy hwx hwy hS' hT' hS2' hT2' hl hm hax hcx hay hcy hsm hr
    obtain ⟨ι, F, hF0, hFB, hFG⟩ := below_fam W0
    have hcF : ∀ a v, W0.cell? a = some v → ∀ n, (F n).cell? a = some v := fun a v h n => bkp (hFB n) _ _ h
    have x0 := hcF _ _ c0; have y0 := hcF _ _ d0
    have x1 := hcF _ _ c1; have y1 := hcF _ _ d1
    have x2 := hcF _ _ c2; have y2 := hcF _ _ d2
    have x3 := hcF _ _ c3; have y3 := hcF _ _ d3
    have x4 := hcF _ _ c4; have y4 := hcF _ _ d4
    have x5 := hcF _ _ c5; have y5 := hcF _ _ d5
    have x6 := hcF _ _ c6; have y6 := hcF _ _ d6
    have x7 := hcF _ _ c7; have y7 := hcF _ _ d7
    have x8 := hcF _ _ c8; have y8 := hcF _ _ d8
    have x9 := hcF _ _ c9; have y9 := hcF _ _ d9
    have HCALL := hdL (calls_fam hFB hFG HSM.out); have HF0 := hdL hF0; have HFB := hdL hFB
    clear hF0 hFB hFG hcF c0 c1 c2 c3 c4 c5 c6 c7 c8 c9 d0 d1 d2 d3 d4 d5 d6 d7 d8 d9
    go_wp2_with fail
    obtain ⟨n0, hn0⟩ := HF0.out 1
    have hne : Nonempty ι := ⟨n0⟩
    refine wp_region_fam F n0 hn0 (by kernel_rfl) (by kernel_rfl) ?_
    repeat (go_big_quiet_step ((go_at_call 32; exact HCALL.out _)))
    refine wpQuiet_nil ?_
    intro _ hw'
    obtain ⟨m0, hw''⟩ := hw'
    subst hw''
    have HBM := hdL (hbw.out.trans ((HFB.out m0).mono hbw.out.size))
    have hxm : (es.map Prod.fst)[k]? = some x.1 := by rw [List.getElem?_map, HXY.out.1]; rfl
    have hym : (fs.map Prod.fst)[k]? = some y.1 := by rw [List.getElem?_map, HXY.out.2]; rfl
    cases r
    ·have HY := hdL (show R = false by rw [HR.out]; exact decide_eq_false (samesE_ne hxm hym HRR.out.symm))
     clear hxm hym
     go_wp2_with fail
     go_ret
     exact ⟨by (rw [HY.out]; rfl), HBM.out⟩
    ·have HNO := hdL (takes_eq hxm hym HRR.out.symm hno.out)
     clear hxm hym
     go_wp2_with fail
     go_roundw
     case rel => exact ⟨k + 1, by go_num, hlt, HNO, HBM⟩
     case measure => simp [intOf]; omega
   ·obtain rfl : k = n := by omega
    have HY := hdL (show R = true by
     have h1 := hno.out
     rw [tLe (by rw [List.length_map, ← HNE.out.1]; exact Nat.le_refl _), tLe (by rw [List.length_map, ← HNE.out.2]; exact Nat.le_refl _)] at h1
     rw [HR.out]; exact decide_eq_true h1)
    go_wp2_with fail
    go_ret
    exact ⟨by (rw [HY.out]; rfl), hbw.out⟩
 ·have hln : ((n : Int) == (n2 : Int)) = false := by simp; omega
  have HY := hdL (show R = false by rw [HR.out]; refine decide_eq_false (fun e => hl ?_); have := congrArg List.length e; rw [List.length_map, List.length_map, ← HNE.out.1, ← HNE.out.2] at this; exact this)
  go_enter Tryz.func41, Tryz.ntmps41
  go_wp2_with fail
  go_ret
  exact ⟨by (rw [HY.out]; rfl), Below.refl _ _⟩
end Go.Proofs.YtaagkndhgicifaaGreat
