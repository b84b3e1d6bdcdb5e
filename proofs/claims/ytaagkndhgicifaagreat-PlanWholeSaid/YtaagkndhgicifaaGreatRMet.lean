/- DERIVED. The reference's met, walked. (Printed by a program.) -/
import Derived.Test.YtaagkndhgicifaaGreatRMeet
import Derived.Test.YtaagkndhgicifaaGreatSolLaw
namespace Go.Proofs.YtaagkndhgicifaaGreat
set_option maxHeartbeats 32000000
open Go.RowKit Go.Shelf
set_option linter.unusedVariables false
set_option linter.unusedSimpArgs false
set_option maxRecDepth 100000
theorem DepsAt.cells {Z : Zone} {w : World} {a : Option Addr} {n c k : Nat} {ds : List Dp} {d : Dp} (h : DepsAt Z w (.slice a n c) ds) (hk : ds[k]? = some d) :
  ∃ b o D ag ng cg, a = some ⟨b, o, none⟩ ∧ strV d.1 = .string D ∧ w.cell? ⟨b, o + k * 2, none⟩ = some (.string D) ∧ w.cell? ⟨b, o + k * 2 + 1, none⟩ = some (.slice ag ng cg) ∧ DepAt Z w (.string D) (.slice ag ng cg) d := by
 obtain ⟨a', c', e, -, h⟩ := h
 obtain ⟨rfl, -, rfl⟩ := Value.slice.inj e
 obtain ⟨b, o, rfl, -, -, hc⟩ := h (fun e => by subst e; cases hk)
 obtain ⟨v0, v1, h0, h1, hd⟩ := hc k d hk
 have hd' := hd
 obtain ⟨rfl, -, ag, cg, rfl, -⟩ := hd'
 obtain ⟨D, -, hD, -, -⟩ := strV_is d.1
 rw [hD] at h0 hd
 exact ⟨b, o, D, ag, _, cg, rfl, hD, h0, h1, hd⟩
theorem below_drewN_of {n q : Nat} {a w : World} (h : Below n a w) : Below n a (w.drewN q) := ⟨h.os, h.tape, h.output, h.size, h.block⟩
theorem any_next {α : Type} {ps : List α} {f : α → Bool} {k : Nat} {q : α} (h : ps[k]? = some q) : (ps.take (k + 1)).any f = ((ps.take k).any f || f q) := by
 rw [List.take_add_one, h, List.any_append]
 simp
theorem all_next {α : Type} {ps : List α} {f : α → Bool} {k : Nat} {q : α} (h : ps[k]? = some q) : (ps.take (k + 1)).all f = ((ps.take k).all f && f q) := by
 rw [List.take_add_one, h, List.all_append]
 simp
theorem all_no {α : Type} {ps : List α} {f : α → Bool} {k : Nat} {q : α} (h : ps[k]? = some q) (hq : f q = false) : ps.all f = false := by
 rw [List.all_eq_false]
 exact ⟨q, List.mem_of_getElem? h, by rw [hq]; simp⟩
theorem rmet_any (w : World) (Z : Zone) (v : Value) (ds : List Dp) (h : DepsAt Z w v ds) (Z2 : Zone) (v2 : Value) (ps : List Pk) (h2 : PkgsAt Z2 w v2 ps) :
  Calls Tryz.prog 52 #[v, v2] w (fun e w' => e = .returned (.bool (metB ds ps)) ∧ Below w.heap.size w w') := by
 have h0 := h
 obtain ⟨a, c, rfl, hb1, -⟩ := h0
 have h02 := h2
 obtain ⟨a2, c2, rfl, hb2, -⟩ := h02
 obtain ⟨n, hn⟩ : ∃ n, n = ds.length := ⟨_, rfl⟩
 obtain ⟨m, hm⟩ : ∃ n, n = ps.length := ⟨_, rfl⟩
 rw [← hn] at h hb1 ⊢
 rw [← hm] at h2 hb2 ⊢
 have hnl : n ≤ 8796093022208 := hb1.max
 have hml : m ≤ 8796093022208 := hb2.max
 have HD := hdL h; have HP := hdL h2; have HN := hdL (And.intro hn hm)
 clear h h2 hn hm hb1 hb2
 go_enter Tryz.func52, Tryz.ntmps52
 go_wp2_with fail
 go_loopw [12] (fun x wr => ∃ k : Nat, x = .int .i64 k ∧ k ≤ n ∧ Hid (metB (ds.take k) ps = true) ∧ Hid (Below w.heap.size w wr)) (fun x _ => n - (intOf x).toNat)
 case atStart => exact ⟨0, rfl, Nat.zero_le _, hdL rfl, hdL (Below.refl _ _)⟩
 case round =>
  obtain ⟨k, rfl, hk, hmt, hbw⟩ := hrel
  by_cases hlt : k < n
  ·obtain ⟨d, hd⟩ : ∃ d, ds[k]? = some d := ⟨_, gEg (by rw [← HN.out.1]; exact hlt)⟩
   obtain ⟨bD, oD, D, ag, ng, cg, rfl, hD, c0, c1, hda⟩ := (HD.out.below hbw.out).cells hd
   obtain ⟨w3, hw3, hb3, hx3, y1, y2⟩ := aBk wr #[.string D, .slice ag ng cg] 59
   obtain ⟨b3, hb3e⟩ : ∃ b, wr.heap.size = b := ⟨_, rfl⟩
   rw [hb3e] at hx3
   have HB3 := hdL (hbw.out.trans (hb3.mono hbw.out.size)); have HX3 := hdL hx3; have HDA := hdL (hda.below hb3); have HDD := hdL hd
   clear hd hD hda hb3 hx3 y1 y2
   go_wp2_with fail
   go_loopw [7, 18] (fun y i wr => ∃ (b : Bool) (j : Nat), y = .bool b ∧ i = .int .i64 j ∧ j ≤ m ∧ Hid (b = (ps.take j).any (willB d)) ∧ Hid (Below w3.heap.size w3 wr)) (fun _ i _ => m - (intOf i).toNat)
   case atStart => exact ⟨false, 0, rfl, rfl, Nat.zero_le _, hdL rfl, hdL (Below.refl _ _)⟩
   case round =>
    obtain ⟨b, j, rfl, rfl, hj, hany, hb2⟩ := hrel
    by_cases hlj : j < m
    ·obtain ⟨q, hq⟩ : ∃ q, ps[j]? = some q := ⟨_, gEg (by rw [← HN.out.2]; exact hlj)⟩
     have hbw4 := HB3.out.trans (hb2.out.mono HB3.out.size)
     obtain ⟨bP, oP, S, rfl, hS, e0, e1, e2, e3⟩ := (HP.out.below hbw4).cells hq
     have hwl := fun W (hW : Below w3.heap.size w3 W) => rwill_any W Z _ _ d (HDA.out.below hW) q
     rw [hS] at hwl
     obtain ⟨q1, hq1⟩ : ∃ y, y = q.2.1 := ⟨_, rfl⟩
     obtain ⟨q2, hq2⟩ : ∃ y, y = q.2.2.1 := ⟨_, rfl⟩
     obtain ⟨q3, hq3⟩ : ∃ y, y = q.2.2.2 := ⟨_, rfl⟩
     rw [← hq1] at e1; rw [← hq2] at e2; rw [← hq3] at e3
     simp only [← hq1, ← hq2, ← hq3] at hwl
     have hnx := any_next (f := willB d) hq
     obtain ⟨w5, hw5, hb5, hx5, y1, y2⟩ := aBk wr #[.string S, .int .i64 q1, .int .i64 q2, .int .i64 q3] 41
     obtain ⟨b5, hb5e⟩ : ∃ b, wr.heap.size = b := ⟨_, rfl⟩
     rw [hb5e] at hx5
     have hb35 := hb2.out.trans (hb5.mono hb2.out.size)
     have g3 := (hb35.block _ (loh HX3.out)).trans HX3.out
     obtain ⟨k0, k1, k2, k3⟩ := cells4 hx5
     obtain ⟨s0, s1⟩ := cells2 g3
     have HWL := hdL (hwl w5 hb35); have HB35 := hdL hb35; have HNX := hdL hnx
     clear hq hbw4 hS hwl hq1 hq2 hq3 hnx hb5 hx5 hb35 g3 y1 y2
     cases b
     ·go_wp2_with fail
      refine HWL.out.mono ?_
      rintro e w6 ⟨rfl, h6⟩
      have HB36 := hdL (HB35.out.trans (h6.mono HB35.out.size))
      clear h6 k0 k1 k2 k3 s0 s1
      go_wp2_with fail
      go_roundw
      case rel => exact ⟨_, j + 1, rfl, by go_num, hlj, hdL (by rw [HNX.out, ← hany.out]; rfl), HB36⟩
      case measure => simp [intOf]; omega
     ·go_wp2_with fail
      go_roundw
      case rel => exact ⟨true, j + 1, rfl, by go_num, hlj, hdL (by rw [HNX.out, ← hany.out]; rfl), HB35⟩
      case measure => simp [intOf]; omega
    ·obtain rfl : m = j := by omega
     have ha := hany.out
     rw [tLe (by rw [← HN.out.2]; exact Nat.le_refl _)] at ha
     have HA := hdL ha; have HBE := hdL (HB3.out.trans (hb2.out.mono HB3.out.size))
     clear ha
     cases b
     ·go_wp2_with fail
      go_ret
      refine ⟨?_, HBE.out⟩
      rw [show metB ds ps = false from all_no (f := fun d => ps.any (willB d)) HDD.out HA.out.symm]
      rfl
     ·have hmn : metB (ds.take (k + 1)) ps = true := by
       unfold metB
       rw [all_next HDD.out, ← HA.out]
       have := hmt.out
       unfold metB at this
       rw [this]
       rfl
      have HMN := hdL hmn
      clear hmn
      go_wp2_with fail
      go_roundw
      case rel => exact ⟨k + 1, by go_num, hlt, HMN, HBE⟩
      case measure => simp [intOf]; omega
  ·obtain rfl : n = k := by omega
   have hm2 := hmt.out
   rw [tLe (by rw [← HN.out.1]; exact Nat.le_refl _)] at hm2
   have HM2 := hdL hm2
   clear hm2
   go_wp2_with fail
   go_ret
   exact ⟨by rw [HM2.out]; rfl, hbw.out⟩
end Go.Proofs.YtaagkndhgicifaaGreat
