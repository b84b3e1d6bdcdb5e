/- DERIVED. How plans' entries stand: version.Compare, stock.Compare, cmp.Or, plan.byStage, and slices.SortFunc at entries. (Printed by plncmpgen.py.) -/
import Derived.Test.YtaagkndhgicifaaGreatStgGet
import Derived.Test.YtaagkndhgicifaaGreatPlnMath
namespace Go.Proofs.YtaagkndhgicifaaGreat
set_option maxHeartbeats 32000000
open Go.RowKit Go.Shelf Go.Sort
set_option linter.unusedVariables false
set_option linter.unusedSimpArgs false
set_option maxRecDepth 100000
def Gr (w w' : World) : Prop := ∃ q os, w' = grow (w.drewN q) os
theorem Gr.refl (w : World) : Gr w w := ⟨0, #[], by simp [grow, World.drewN]⟩
theorem Gr.trans {a b c : World} (h : Gr a b) (g : Gr b c) : Gr a c := by
 obtain ⟨q, os, rfl⟩ := h
 obtain ⟨r, ps, rfl⟩ := g
 exact ⟨q + r, os ++ ps, by simp [grow, World.drewN, Nat.add_assoc]⟩
theorem Gr.drewN {a b : World} (h : Gr a b) (k : Nat) : Gr a (b.drewN k) := h.trans ⟨k, #[], by simp [grow, World.drewN]⟩
theorem Gr.alloc {a b : World} (h : Gr a b) (o : Obj) : Gr a (b.alloc o) := h.trans ⟨0, #[o], by rw [alloc_eq_grow]; rfl⟩
theorem Gr.below {a b : World} (h : Gr a b) : Below a.heap.size a b := by
 obtain ⟨q, os, rfl⟩ := h
 refine ⟨rfl, rfl, rfl, by simp [grow, World.drewN], fun k hk => ?_⟩
 rw [heap_grow_old _ _ (by simpa [World.drewN] using hk)]
 rfl
theorem eqVerB (x y z x' y' z' : Int) (w : World) : (Op.equalIn 10000 39 (.agg #[.int .i64 x, .int .i64 y, .int .i64 z]) (.agg #[.int .i64 x', .int .i64 y', .int .i64 z'])).run Tryz.prog w = .ok (decide (x = x' ∧ y = y' ∧ z = z')) w := by
 have u3 := Tryz.underlying3
 have a3 := Tryz.isAgg3
 have z3 := Tryz.sizeOf3
 have u24 := Tryz.underlying39
 obtain ⟨i0, hi, -, -, -⟩ := info_parts (show (Tryz.prog.info? 3).map (fun i => (i.zero, i.size, i.bytes)) = some (some (.int .i64 0), 1, 8) by kernel_rfl)
 rw [show (10000 : Nat) = 9999 + 1 from rfl, run_equalIn_array w 9999 _ _ u24 hi]
 have hc : Tryz.prog.cellsOf 3 = 1 := by kernel_rfl
 simp only [List.range, List.range.loop, Op.eqItems, hc]
 go_simp
 by_cases h1 : x = x' <;> by_cases h2 : y = y' <;> by_cases h3 : z = z' <;> simp [h1, h2, h3]
theorem vcmpP_any (w : World) (u v : Ver) : Calls Tryz.prog 150 #[.agg #[.int .i64 u.1, .int .i64 u.2.1, .int .i64 u.2.2], .agg #[.int .i64 v.1, .int .i64 v.2.1, .int .i64 v.2.2]] w (fun e w' => e = .returned (.int .i64 (verCmp u v)) ∧ Gr w w') := by
 obtain ⟨a, b, c⟩ := u
 obtain ⟨a', b', c'⟩ := v
 dsimp only
 obtain ⟨R, hR⟩ : ∃ R, R = verCmp (a, b, c) (a', b', c') := ⟨_, rfl⟩
 rw [← hR]
 obtain ⟨w1, hw1, hb1, hx1, y1, y2⟩ := aBk w #[.int .i64 a, .int .i64 b, .int .i64 c] 39
 obtain ⟨w2, hw2, hb2, hx2, y3, y4⟩ := aBk w1 #[.int .i64 a', .int .i64 b', .int .i64 c'] 39
 obtain ⟨b1, hb1e⟩ : ∃ b, w.heap.size = b := ⟨_, rfl⟩
 obtain ⟨b2, hb2e⟩ : ∃ b, w1.heap.size = b := ⟨_, rfl⟩
 have g1 := (hb2.block _ (by omega)).trans hx1
 rw [hb1e] at g1; rw [hb2e] at hx2
 have HGR := hdL (show Gr w w2 by rw [← hw2, ← hw1]; exact ((Gr.refl w).alloc _).alloc _)
 have hver := fun V => eqVerB a b c a' b' c' V
 have HLT := hdL (fun h => hR.trans (verCmp_lt h)); have HGT := hdL (fun h hn => hR.trans (verCmp_gt h hn))
 have HEQ := hdL (fun (h : a = a' ∧ b = b' ∧ c = c') => (by obtain ⟨rfl, rfl, rfl⟩ := h; exact hR.trans (verCmp_eq _) : R = 0))
 have HCC := hdL (fun (x y : Int) (V : World) => Tryz.cmp_Compare_int x y V)
 have G1 := hdL g1; have G2 := hdL hx2
 clear hb1 hb2 g1 hx1 hx2 hR y1 y2 y3 y4
 obtain ⟨k0, k1, k2⟩ := cells3 G1.out
 obtain ⟨j0, j1, j2⟩ := cells3 G2.out
 by_cases hall : a = a' ∧ b = b' ∧ c = c'
 ·have hR0 := HEQ.out hall
  simp only [decide_eq_true hall] at hver
  subst hR0
  clear hall HLT HGT HEQ
  go_enter Tryz.func150, Tryz.ntmps150
  go_wp2_with fail
  go_ret
  exact ⟨rfl, HGR.out⟩
 simp only [decide_eq_false hall] at hver
 have HALL := hdL hall; clear hall
 go_enter Tryz.func150, Tryz.ntmps150
 go_wp2_with fail
 clear hver k0 k1 k2 j0 j1 j2
 go_loopw [9] (fun x wr => ∃ k : Nat, x = .int .i64 k ∧ k ≤ 2 ∧ Hid (0 < k → a = a') ∧ Hid (1 < k → b = b') ∧ Hid (Gr w2 wr)) (fun x _ => 2 - (intOf x).toNat)
 case atStart => exact ⟨0, rfl, by omega, hdL (fun h => absurd h (by omega)), hdL (fun h => absurd h (by omega)), hdL (Gr.refl _)⟩
 case round =>
  obtain ⟨k, rfl, hk, h0, h1, hgr⟩ := hrel
  obtain ⟨k0, k1, k2⟩ := cells3 ((hgr.out.below.block _ (loh G1.out)).trans G1.out)
  obtain ⟨j0, j1, j2⟩ := cells3 ((hgr.out.below.block _ (loh G2.out)).trans G2.out)
  have H3 := hdL (HGR.out.trans hgr.out)
  rcases (show k = 0 ∨ k = 1 ∨ k = 2 from by omega) with rfl | rfl | rfl
  ·by_cases e : a = a'
   ·have hnb : (a != a') = false := by simp; exact e
    have H0 := hdL e
    clear e
    go_wp2_with fail
    go_quiet (fail)
    go_wp2_with fail
    go_roundw
    case rel => exact ⟨1, rfl, by omega, hdL (fun _ => H0.out), hdL (fun h => absurd h (by omega)), hdL (hgr.out.drewN _)⟩
    case measure => simp [intOf]
   ·have hnb : (a != a') = true := by simp; exact e
    have HRV := hdL (show R = Lib.compareInt a a' by
     unfold Lib.compareInt
     rcases (show a < a' ∨ (¬ a < a' ∧ a' < a) from by omega) with h | ⟨h, h'⟩
     ·rw [if_pos h]; exact HLT.out (.inl h)
     ·rw [if_neg h, if_pos h']; exact HGT.out (fun hh => by omega) (fun hh => e hh.1))
    have hcc := HCC.out a a'
    have HC := hdL hcc; clear hcc e
    go_wp2_with fail
    go_quiet (fail)
    go_wp2_with fail
    go_quiet ((go_at_call 114; exact (HC.out _).mono (fun e w' h => ⟨h.1, _, h.2⟩)))
    go_wp2_with fail
    go_ret
    exact ⟨by rw [HRV.out]; rfl, (H3.out.drewN _).drewN _⟩
  ·have e0 := h0.out (by omega)
   by_cases e : b = b'
   ·have hnb : (b != b') = false := by simp; exact e
    have H0 := hdL e
    clear e
    go_wp2_with fail
    go_quiet (fail)
    go_wp2_with fail
    go_roundw
    case rel => exact ⟨2, rfl, by omega, hdL (fun _ => h0.out (by omega)), hdL (fun _ => H0.out), hdL (hgr.out.drewN _)⟩
    case measure => simp [intOf]
   ·have hnb : (b != b') = true := by simp; exact e
    have HRV := hdL (show R = Lib.compareInt b b' by
     unfold Lib.compareInt
     rcases (show b < b' ∨ (¬ b < b' ∧ b' < b) from by omega) with h | ⟨h, h'⟩
     ·rw [if_pos h]; exact HLT.out (.inr ⟨e0, .inl h⟩)
     ·rw [if_neg h, if_pos h']; exact HGT.out (fun hh => by omega) (fun hh => e hh.2.1))
    have hcc := HCC.out b b'
    have HC := hdL hcc; clear hcc e
    go_wp2_with fail
    go_quiet (fail)
    go_wp2_with fail
    go_quiet ((go_at_call 114; exact (HC.out _).mono (fun e w' h => ⟨h.1, _, h.2⟩)))
    go_wp2_with fail
    go_ret
    exact ⟨by rw [HRV.out]; rfl, (H3.out.drewN _).drewN _⟩
  ·have e0 := h0.out (by omega)
   have e1 := h1.out (by omega)
   have e : ¬ c = c' := fun e => HALL.out ⟨e0, e1, e⟩
   have hnb : (c != c') = true := by simp; exact e
   have HRV := hdL (show R = Lib.compareInt c c' by
    unfold Lib.compareInt
    rcases (show c < c' ∨ (¬ c < c' ∧ c' < c) from by omega) with h | ⟨h, h'⟩
    ·rw [if_pos h]; exact HLT.out (.inr ⟨e0, .inr ⟨e1, h⟩⟩)
    ·rw [if_neg h, if_pos h']; exact HGT.out (fun hh => by omega) (fun hh => e hh.2.2))
   have hcc := HCC.out c c'
   have HC := hdL hcc; clear hcc e
   go_wp2_with fail
   go_quiet (fail)
   go_wp2_with fail
   go_quiet ((go_at_call 114; exact (HC.out _).mono (fun e w' h => ⟨h.1, _, h.2⟩)))
   go_wp2_with fail
   go_ret
   exact ⟨by rw [HRV.out]; rfl, (H3.out.drewN _).drewN _⟩
theorem pcmpP_any (w : World) (p q : Pk) : Calls Tryz.prog 115 #[.agg #[strV p.1, .int .i64 p.2.1, .int .i64 p.2.2.1, .int .i64 p.2.2.2], .agg #[strV q.1, .int .i64 q.2.1, .int .i64 q.2.2.1, .int .i64 q.2.2.2]] w (fun e w' => e = .returned (.int .i64 (pkCmpI p q)) ∧ Gr w w') := by
 obtain ⟨S, hS1, hS, -, -⟩ := strV_is p.1
 obtain ⟨T, hT1, hT, -, -⟩ := strV_is q.1
 have hv := fun W => vcmpP_any W p.2 q.2
 have hn1 := pkCmpI_name (p := p) (q := q)
 have hn2 := pkCmpI_less (p := p) (q := q)
 obtain ⟨R, hR⟩ : ∃ R, R = pkCmpI p q := ⟨_, rfl⟩
 rw [← hR] at hn1 hn2 ⊢
 rw [hS, hT]
 obtain ⟨pn, a, b, c⟩ := p
 obtain ⟨qn, a', b', c'⟩ := q
 dsimp only at hv hn1 hn2 hS1 hT1 ⊢
 obtain ⟨V, hV⟩ : ∃ V, V = verCmp (a, b, c) (a', b', c') := ⟨_, rfl⟩
 rw [← hV] at hv hn1
 obtain ⟨w1, hw1, hb1, hx1, y1, y2⟩ := aBk w #[.string S, .int .i64 a, .int .i64 b, .int .i64 c] 41
 obtain ⟨w2, hw2, hb2, hx2, y3, y4⟩ := aBk w1 #[.string T, .int .i64 a', .int .i64 b', .int .i64 c'] 41
 have g1 := (hb2.block _ (by omega)).trans hx1
 obtain ⟨k0, k1, k2, k3⟩ := cells4 g1
 obtain ⟨j0, j1, j2, j3⟩ := cells4 hx2
 have HB := hdL (show Gr w w2 by rw [← hw2, ← hw1]; exact ((Gr.refl w).alloc _).alloc _); have HV := hdL hv
 have HN1 := hdL hn1; have HN2 := hdL hn2
 have hST : S.toList = pn ∧ T.toList = qn := ⟨by rw [hS1, Lib.toList_data], by rw [hT1, Lib.toList_data]⟩
 have HST := hdL hST
 clear hx1 hx2 hb1 hb2 g1 hR hn1 hn2 hv hV hS1 hT1 hS hT hST
 by_cases e : S.toList = T.toList
 ·have hl1 : Op.bytesLess S.toList T.toList = false := by rw [e]; exact less_irrefl _
  have he : (S.toList == T.toList) = true := by simpa using e
  have HR := hdL (HN1.out (by rw [← HST.out.1, ← HST.out.2]; exact e))
  clear e
  go_enter Tryz.func115, Tryz.ntmps115
  go_wp2_with fail
  refine (HV.out _).mono ?_
  rintro e w3 ⟨rfl, h3⟩
  have H3 := hdL (HB.out.trans h3)
  clear h3
  go_wp2_with fail
  go_ret
  exact ⟨by rw [HR.out]; rfl, H3.out⟩
 ·have he : (S.toList == T.toList) = false := by simpa using e
  have HR := hdL (HN2.out (by rw [← HST.out.1, ← HST.out.2]; exact e))
  rw [← HST.out.1, ← HST.out.2] at HR
  clear e
  cases hl : Op.bytesLess S.toList T.toList
  ·have HR := hdL (show R = 1 by have := HR.out; rw [hl] at this; simpa using this)
   go_enter Tryz.func115, Tryz.ntmps115
   go_wp2_with fail
   go_ret
   exact ⟨by rw [HR.out]; rfl, HB.out⟩
  ·have HR := hdL (show R = -1 by have := HR.out; rw [hl] at this; simpa using this)
   go_enter Tryz.func115, Tryz.ntmps115
   go_wp2_with fail
   go_ret
   exact ⟨by rw [HR.out]; rfl, HB.out⟩
theorem cor_any (w : World) (g : Nat) (x y : Int) (h : w.heap[g]? = some (.cells #[.int .i64 x, .int .i64 y] 3 (0, 0))) : Calls Tryz.prog 113 #[.slice (some ⟨g, 0, none⟩) 2 2] w (fun e w' => e = .returned (.int .i64 (if x = 0 then y else x)) ∧ w' = w) := by
 obtain ⟨k0, k1⟩ := cells2 h
 obtain ⟨R, hR⟩ : ∃ R, R = if x = 0 then y else x := ⟨_, rfl⟩
 rw [← hR]
 have HR := hdL hR
 clear h hR
 go_enter Tryz.func113, Tryz.ntmps113
 go_wp2_with fail
 go_loopw [8] (fun i wr => ∃ k : Nat, i = .int .i64 k ∧ k ≤ 2 ∧ wr = w ∧ Hid (0 < k → x = 0) ∧ Hid (1 < k → y = 0)) (fun i _ => 2 - (intOf i).toNat)
 case atStart => exact ⟨0, rfl, by omega, rfl, hdL (fun h => absurd h (by omega)), hdL (fun h => absurd h (by omega))⟩
 case round =>
  obtain ⟨k, rfl, hk, rfl, h0, h1⟩ := hrel
  rcases (show k = 0 ∨ k = 1 ∨ k = 2 from by omega) with rfl | rfl | rfl
  ·by_cases e : x = 0
   ·have hb : (x != 0) = false := by simp; exact e
    have HE := hdL e; clear e
    go_wp2_with fail
    go_roundw
    case rel => exact ⟨1, rfl, by omega, by first | rfl | trivial, hdL (fun _ => HE.out), hdL (fun h => absurd h (by omega))⟩
    case measure => simp [intOf]
   ·have hb : (x != 0) = true := by simp; exact e
    have HY := hdL (show R = x by rw [HR.out, if_neg e]); clear e
    go_wp2_with fail
    go_ret
    exact ⟨by (rw [HY.out]; rfl), rfl⟩
  ·have hR2 : R = y := by rw [HR.out, if_pos (h0.out (by omega))]
   have HY := hdL hR2; clear hR2
   by_cases e : y = 0
   ·have hb : (y != 0) = false := by simp; exact e
    have HE := hdL e; clear e
    go_wp2_with fail
    go_roundw
    case rel => exact ⟨2, rfl, by omega, by first | rfl | trivial, hdL (fun _ => h0.out (by omega)), hdL (fun _ => HE.out)⟩
    case measure => simp [intOf]
   ·have hb : (y != 0) = true := by simp; exact e
    clear e
    go_wp2_with fail
    go_ret
    exact ⟨by (rw [HY.out]; rfl), rfl⟩
  ·have HY := hdL (show R = 0 by rw [HR.out, if_pos (h0.out (by omega)), h1.out (by omega)])
   go_wp2_with fail
   go_ret
   exact ⟨by (rw [HY.out]; rfl), rfl⟩
abbrev cfE (x y : EV) : Int := if Lib.compareInt x.1.stage y.1.stage = 0 then pkCmpI x.1.pkg y.1.pkg else Lib.compareInt x.1.stage y.1.stage
instance entDec (x y : Ent) : Decidable (entLt x y) := by unfold entLt; infer_instance
theorem ltE (x y : EV) : ltOf cfE x y = decide (entLt x.1 y.1) := by
 rw [Bool.eq_iff_iff, decide_eq_true_eq]
 unfold ltOf cfE Lib.compareInt pkCmpI entLt
 rw [decide_eq_true_eq]
 rcases (show x.1.stage < y.1.stage ∨ x.1.stage = y.1.stage ∨ y.1.stage < x.1.stage from by omega) with h | h | h
 ·simp [h]
 ·rw [h]
  simp only [Int.lt_irrefl, if_false, gt_iff_lt, if_true, false_or, true_and]
  cases hp : pkLt x.1.pkg y.1.pkg
  ·simp
   split <;> omega
  ·simp
 ·have h1 : ¬ x.1.stage < y.1.stage := by omega
  have h2 : ¬ x.1.stage = y.1.stage := by omega
  simp [h1, h2, h]
theorem entLt_trans {x y z : Ent} (h : entLt x y) (g : entLt y z) : entLt x z := by
 rcases h with h | ⟨h1, h2⟩ <;> rcases g with g | ⟨g1, g2⟩
 ·exact .inl (by omega)
 ·exact .inl (by omega)
 ·exact .inl (by omega)
 ·exact .inr ⟨by omega, pkLt_trans h2 g2⟩
theorem entLt_tot {x y : Ent} (h : ¬ entLt x y) (g : ¬ entLt y x) : x.stage = y.stage ∧ x.pkg = y.pkg := by
 have h1 : x.stage = y.stage := by
  rcases Int.lt_trichotomy x.stage y.stage with h' | h' | h'
  ·exact absurd (.inl h') h
  ·exact h'
  ·exact absurd (.inl h') g
 refine ⟨h1, pkLt_tot ?_ ?_⟩
 ·cases hp : pkLt x.pkg y.pkg
  ·rfl
  ·exact absurd (.inr ⟨h1, hp⟩) h
 ·cases hp : pkLt y.pkg x.pkg
  ·rfl
  ·exact absurd (.inr ⟨h1.symm, hp⟩) g
theorem swoE : SWO (ltOf cfE) where
 irrefl x := by rw [ltE]; exact decide_eq_false (fun h => entLt_asymm h h)
 trans x y z h1 h2 := by
  rw [ltE] at *
  exact decide_eq_true (entLt_trans (of_decide_eq_true h1) (of_decide_eq_true h2))
 ntrans x y z h1 h2 := by
  rw [ltE] at *
  have h1 := of_decide_eq_false h1
  have h2 := of_decide_eq_false h2
  refine decide_eq_false (fun h => ?_)
  by_cases h3 : entLt y.1 x.1
  ·exact h2 (entLt_trans h3 h)
  ·obtain ⟨e1, e2⟩ := entLt_tot h1 h3
   refine h2 ?_
   rcases h with h | ⟨h, h'⟩
   ·exact .inl (by omega)
   ·exact .inr ⟨by omega, by rw [← e2]; exact h'⟩
theorem bystage_any (x y : EV) (w : World) : Calls Tryz.prog 74 #[.agg (entL x).toArray, .agg (entL y).toArray] w fun e w' => e = .returned (.int .i64 (cfE x y)) ∧ ∃ q os', w' = grow (w.drewN q) os' := by
 obtain ⟨R, hR⟩ : ∃ R, R = cfE x y := ⟨_, rfl⟩
 rw [← hR]
 obtain ⟨x, ax, cx⟩ := x
 obtain ⟨y, ay, cy⟩ := y
 dsimp only [cfE] at hR
 obtain ⟨S, T, p1, p2, p3, sg, t1, t2, t3, n9, hl⟩ := ent_let x
 obtain ⟨S2, T2, q1, q2, q3, sh, u1, u2, u3, m9, hm⟩ := ent_let y
 rw [hl.arr, hm.arr]
 rw [← hl.g, ← hm.g] at hR
 have hpc := fun W => pcmpP_any W x.pkg y.pkg
 simp only [hl.s, hm.s, ← hl.p.1, ← hl.p.2.1, ← hl.p.2.2, ← hm.p.1, ← hm.p.2.1, ← hm.p.2.2] at hpc
 obtain ⟨pc, hpce⟩ : ∃ z, z = pkCmpI x.pkg y.pkg := ⟨_, rfl⟩
 rw [← hpce] at hpc hR
 obtain ⟨ci, hci⟩ : ∃ z, z = Lib.compareInt sg sh := ⟨_, rfl⟩
 rw [← hci] at hR
 have hcc := fun V => Tryz.cmp_Compare_int sg sh V
 rw [← hci] at hcc
 obtain ⟨w1, hw1, hb1, hx1, y1, y2⟩ := aBk w #[.string S, .int .i64 p1, .int .i64 p2, .int .i64 p3, .int .i64 sg, .string T, .int .i64 t1, .int .i64 t2, .int .i64 t3, .slice ax n9 cx] 45
 obtain ⟨w2, hw2, hb2, hx2, y3, y4⟩ := aBk w1 #[.string S2, .int .i64 q1, .int .i64 q2, .int .i64 q3, .int .i64 sh, .string T2, .int .i64 u1, .int .i64 u2, .int .i64 u3, .slice ay m9 cy] 45
 obtain ⟨b1, hb1e⟩ : ∃ b, w.heap.size = b := ⟨_, rfl⟩
 obtain ⟨b2, hb2e⟩ : ∃ b, w1.heap.size = b := ⟨_, rfl⟩
 have g1 := (hb2.block _ (by omega)).trans hx1
 rw [hb1e] at g1; rw [hb2e] at hx2
 have HGR := hdL (show Gr w w2 by rw [← hw2, ← hw1]; exact ((Gr.refl w).alloc _).alloc _); have HPC := hdL hpc; have HCC := hdL hcc; have HR := hdL hR; have G1 := hdL g1; have G2 := hdL hx2
 clear hb1 hb2 hx1 hx2 g1 hpc hcc hR hpce hci hl hm y1 y2 y3 y4
 go_enter Tryz.func74, Tryz.ntmps74
 have hA : ∀ W, Below w2.heap.size w2 W → ∀ q ∈ ([(4, (fun W : World => W.cell? ⟨b1, 4, none⟩ = some (.int .i64 sg) ∧ W.cell? ⟨b2, 4, none⟩ = some (.int .i64 sh))), (9, (fun W : World => (W.cell? ⟨b1, 0, none⟩ = some (.string S) ∧ W.cell? ⟨b1, 1, none⟩ = some (.int .i64 p1) ∧ W.cell? ⟨b1, 2, none⟩ = some (.int .i64 p2) ∧ W.cell? ⟨b1, 3, none⟩ = some (.int .i64 p3)) ∧ W.cell? ⟨b2, 0, none⟩ = some (.string S2) ∧ W.cell? ⟨b2, 1, none⟩ = some (.int .i64 q1) ∧ W.cell? ⟨b2, 2, none⟩ = some (.int .i64 q2) ∧ W.cell? ⟨b2, 3, none⟩ = some (.int .i64 q3)))] : List (Nat × (World → Prop))), q.2 W := by
  intro W hW q hq
  rcases List.mem_cons.1 hq with rfl | hq
  ·exact ⟨bkp hW _ _ (cOh G1.out 4), bkp hW _ _ (cOh G2.out 4)⟩
  obtain rfl := mSg.1 hq
  exact ⟨⟨bkp hW _ _ (cOh G1.out 0), bkp hW _ _ (cOh G1.out 1), bkp hW _ _ (cOh G1.out 2), bkp hW _ _ (cOh G1.out 3)⟩, bkp hW _ _ (cOh G2.out 0), bkp hW _ _ (cOh G2.out 1), bkp hW _ _ (cOh G2.out 2), bkp hW _ _ (cOh G2.out 3)⟩
 have HA := hdL hA; clear hA
 have HW0 := hdL (show Gr w2 w2.drew from (Gr.refl w2).drewN 1)
 go_upto_region 1 with fail
 refine UpV.start [(4, (fun W : World => W.cell? ⟨b1, 4, none⟩ = some (.int .i64 sg) ∧ W.cell? ⟨b2, 4, none⟩ = some (.int .i64 sh))), (9, (fun W : World => (W.cell? ⟨b1, 0, none⟩ = some (.string S) ∧ W.cell? ⟨b1, 1, none⟩ = some (.int .i64 p1) ∧ W.cell? ⟨b1, 2, none⟩ = some (.int .i64 p2) ∧ W.cell? ⟨b1, 3, none⟩ = some (.int .i64 p3)) ∧ W.cell? ⟨b2, 0, none⟩ = some (.string S2) ∧ W.cell? ⟨b2, 1, none⟩ = some (.int .i64 q1) ∧ W.cell? ⟨b2, 2, none⟩ = some (.int .i64 q2) ∧ W.cell? ⟨b2, 3, none⟩ = some (.int .i64 q3)))] (by kernel_rfl) ?_
 refine UpV.tp 0 (v := .pointer (some ⟨b1, 4, none⟩)) rfl (Or.inl ⟨by rfl, ?_⟩) (owe_all (HA.out _ HW0.out.below)) ?_
 ·intro w hSw; first | rfl | (try simp only [sqG]; go_simp; done) | (try simp only [sqG]; go_simp; simp)
 try simp only [Act.put, sqZ]
 refine UpV.tk 1 4 (v := .int .i64 sg) rfl (mCs ..) (Or.inl ⟨by rfl, ?_⟩) (owe_all (HA.out _ HW0.out.below)) ?_
 ·intro w hSw; obtain ⟨s0, s1⟩ := hSw; go_simp
 try simp only [Act.put, sqZ]
 refine UpV.tp 2 (v := .pointer (some ⟨b2, 4, none⟩)) rfl (Or.inl ⟨by rfl, ?_⟩) (owe_all (HA.out _ HW0.out.below)) ?_
 ·intro w hSw; first | rfl | (try simp only [sqG]; go_simp; done) | (try simp only [sqG]; go_simp; simp)
 try simp only [Act.put, sqZ]
 refine UpV.tk 3 4 (v := .int .i64 sh) rfl (mCs ..) (Or.inl ⟨by rfl, ?_⟩) (owe_all (HA.out _ HW0.out.below)) ?_
 ·intro w hSw; obtain ⟨s0, s1⟩ := hSw; go_simp
 try simp only [Act.put, sqZ]
 refine UpV.tp 5 (v := .pointer (some ⟨b1, 0, none⟩)) rfl (Or.inl ⟨by rfl, ?_⟩) (owe_all (HA.out _ HW0.out.below)) ?_
 ·intro w hSw; first | rfl | (try simp only [sqG]; go_simp; done) | (try simp only [sqG]; go_simp; simp)
 try simp only [Act.put, sqZ]
 refine UpV.tk 6 9 (v := .agg #[.string S, .int .i64 p1, .int .i64 p2, .int .i64 p3]) rfl (mCm _ (mCs ..)) (Or.inl ⟨by rfl, ?_⟩) (owe_all (HA.out _ HW0.out.below)) ?_
 ·intro w hSw; obtain ⟨⟨a0, a1, a2, a3⟩, c0, c1, c2, c3⟩ := hSw; go_simp
 try simp only [Act.put, sqZ]
 refine UpV.tp 7 (v := .pointer (some ⟨b2, 0, none⟩)) rfl (Or.inl ⟨by rfl, ?_⟩) (owe_all (HA.out _ HW0.out.below)) ?_
 ·intro w hSw; first | rfl | (try simp only [sqG]; go_simp; done) | (try simp only [sqG]; go_simp; simp)
 try simp only [Act.put, sqZ]
 refine UpV.tk 8 9 (v := .agg #[.string S2, .int .i64 q1, .int .i64 q2, .int .i64 q3]) rfl (mCm _ (mCs ..)) (Or.inl ⟨by rfl, ?_⟩) (owe_all (HA.out _ HW0.out.below)) ?_
 ·intro w hSw; obtain ⟨⟨a0, a1, a2, a3⟩, c0, c1, c2, c3⟩ := hSw; go_simp
 try simp only [Act.put, sqZ]
 refine UpV.one 4 (by kernel_rfl) rfl ?_
 intro K hK
 try simp only [sqG]
 try go_simp
 go_at_call 114
 refine (HCC.out _).mono ?_
 rintro e Wa ⟨rfl, hWa⟩
 have HWa := hdL ((hWa ▸ HW0.out : Gr w2 Wa)); clear hWa
 try go_simp
 refine hK.out _ _ (owe_all (HA.out _ HWa.out.below)) ?_
 clear hK K
 try simp only [Act.put, sqZ]
 refine UpV.one 9 (by kernel_rfl) rfl ?_
 intro K hK
 try simp only [sqG]
 try go_simp
 go_at_call 115
 refine (HPC.out _).mono ?_
 rintro e Wb ⟨rfl, hWb⟩
 have HWb := hdL (HWa.out.trans hWb); clear hWb
 try go_simp
 refine hK.out _ _ (owe_all (HA.out _ HWb.out.below)) ?_
 clear hK K
 try simp only [Act.put, sqZ]
 obtain ⟨Wc, hWc, hbc, hxc, z1, z2⟩ := aBk Wb #[.int .i64 ci, .int .i64 pc] 3
 obtain ⟨bc, hbce⟩ : ∃ b, Wb.heap.size = b := ⟨_, rfl⟩
 rw [hbce] at hxc
 have HWc := hdL (show Gr w2 Wc by rw [← hWc]; exact HWb.out.alloc _); have HXC := hdL (cor_any Wc bc ci pc hxc); clear hbc hxc z1 z2
 refine UpV.one 10 (by kernel_rfl) rfl ?_
 intro K hK
 try simp only [sqG]
 try go_simp
 try rw [hWc]
 refine hK.out _ _ (owe_all (HA.out _ HWc.out.below)) ?_
 clear hK K
 try simp only [Act.put, sqZ]
 refine UpV.one 11 (by kernel_rfl) rfl ?_
 intro K hK
 try simp only [sqG]
 try go_simp
 go_at_call 113
 try rw [hbce]
 refine HXC.out.mono ?_
 rintro e Wd ⟨rfl, hWd⟩
 have HWd := hdL (hWd ▸ HWc.out : Gr w2 Wd); clear hWd
 try go_simp
 refine hK.out _ _ (owe_all (HA.out _ HWd.out.below)) ?_
 clear hK K
 try simp only [Act.put, sqZ]
 refine UpV.tp 12 (v := .int .i64 (if ci = 0 then pc else ci)) rfl (Or.inl ⟨by rfl, ?_⟩) (owe_all (HA.out _ HWd.out.below)) ?_
 ·intro w hSw; first | rfl | (try simp only [sqG]; go_simp; done) | (try simp only [sqG]; go_simp; simp)
 try simp only [Act.put, sqZ]
 refine UpV.done (by kernel_rfl) ?_
 rw [← HR.out]
 go_wp2_with fail
 go_ret
 exact ⟨rfl, HGR.out.trans HWd.out⟩
instance : Inhabited Ent := ⟨⟨([], 0, 0, 0), 0, ch0⟩⟩
theorem esort_any (w : World) (base : Nat) (v : Value) (os : List EV) (h : ownsC w base 45 10 v os.length (os.flatMap entL)) (hl : os.length ≤ 10000) :
  Calls Tryz.prog 73 #[v, .func (.func 74) #[] #[]] w fun e w' => e = .returned (.tuple #[]) ∧ ∃ ds : List EV, ds.Perm os ∧ (ds.Pairwise fun x y => ¬ entLt y.1 x.1) ∧ ownsC w' base 45 10 v ds.length (ds.flatMap entL) ∧ w.grownBy w' v.ownBlock := by
 rcases h.2 with ⟨rfl, h0⟩ | ⟨g, cap, cur, rfl, hbase, hb, h1, h2, h3, h4⟩
 ·obtain rfl : os = [] := eN0 h0
  have hc := AnyF.slices_SortFunc_none Tryz.laysSortEnt none 0 (.func (.func 74) #[] #[]) w
  change Calls Tryz.prog 73 _ _ _ at hc
  refine hc.mono ?_
  rintro e w' ⟨rfl, rfl⟩
  exact ⟨rfl, [], List.Perm.refl _, List.Pairwise.nil, ownsC_nil _ _ _ _, World.grownBy.refl _ _⟩
 ·have hH := holdsK_own entL_len (by decide) hb h4
  have hc := AnyQ.slices_SortFunc Tryz.laysSortEnt 10 Tryz.isAgg45 Tryz.sizeOf45 entL entL_len entL_one cfE swoE 74 #[] g 0 cap os.toArray w (enters_of Tryz.func74 (by kernel_rfl) rfl) (fun _ _ _ _ x y => bystage_any x y _) hH (loh hb) (by simp; omega)
  change Calls Tryz.prog 73 _ _ _ at hc
  rw [List.size_toArray] at hc
  refine hc.mono ?_
  rintro e w' ⟨rfl, d', n, os', hp, hs, rfl⟩
  obtain ⟨ds, rfl⟩ : ∃ ds : List EV, d' = ds.toArray := ⟨d'.toList, by simp⟩
  obtain ⟨hz, -, hpm⟩ := hp
  have hz' : ds.length = os.length := by simpa using hz
  have hpm' : ds.Perm os := by
   have e1 : ds.toArray.extract 0 os.length = ds.toArray := by rw [← hz']; simp
   have e2 : os.toArray.extract 0 os.length = os.toArray := by simp
   rw [e1, e2] at hpm
   exact hpm
  have hsr : ds.Pairwise fun x y => ¬ entLt y.1 x.1 := by
   rw [List.pairwise_iff_getElem]
   intro i j hi hj hij
   have := hs i j (Nat.zero_le _) hij (by rw [← hz']; exact hj)
   rw [ltE] at this
   rw [getElem!_pos ds.toArray i (by simpa using hi), getElem!_pos ds.toArray j (by simpa using hj)] at this
   simpa using this
  refine ⟨rfl, ds, hpm', hsr, ?_, grownBy_putK _⟩
  rw [hz']
  exact own_putC entL_len (by decide) hz' hbase hb h1 h2 h3
theorem srt_of {ds : List EV} (h : ds.Pairwise fun x y => ¬ entLt y.1 x.1) (hn : ((ds.map Prod.fst).map Ent.pkg).Nodup) : SrtE (ds.map Prod.fst) := by
 unfold SrtE
 rw [List.pairwise_map]
 have h2 : ds.Pairwise fun x y => x.1.pkg ≠ y.1.pkg := by rw [List.map_map] at hn; exact List.pairwise_map.1 hn
 refine (h.and h2).imp ?_
 rintro x y ⟨h3, h4⟩
 apply Decidable.byContradiction
 intro h5
 exact h4 (entLt_tot h5 h3).2
end Go.Proofs.YtaagkndhgicifaaGreat
