/- DERIVED. The law's own packages and recipes. (Printed by stlgen.py.) -/
import Derived.Test.YtaagkndhgicifaaGreatSv11
namespace Go.Proofs.YtaagkndhgicifaaGreat
open Go.RowKit Go.Shelf
set_option linter.unusedVariables false
set_option linter.unusedSimpArgs false
set_option maxRecDepth 100000
theorem pkg_any (w : World) (T : ByteArray) (k : Int) : Calls Tryz.prog 27 #[.string T, .int .i64 k] w (fun e w' => e = .returned (.agg #[.string T, .int .i64 k, .int .i64 0, .int .i64 0]) ∧ Below w.heap.size w w') := by
 obtain ⟨b, hb⟩ : ∃ b, w.heap.size = b := ⟨_, rfl⟩
 go_enter Tryz.func27, Tryz.ntmps27
 go_wp2_with fail
 obtain ⟨w1, hw1, hb1, hx1, y1, y2⟩ := aBk w #[.string T, .int .i64 k, .int .i64 0, .int .i64 0] 41
 rw [hw1]
 rw [hb] at hx1
 obtain ⟨r0, r1, r2, r3⟩ := cells4 hx1
 refine bodyPost_ret (v := .agg #[.string T, .int .i64 k, .int .i64 0, .int .i64 0]) (by simp [results, Tryz.results27, go_sem, r0, r1, r2, r3]) rfl ?_
 exact ⟨rfl, hb1⟩
theorem eight_setR {w : World} {B : Nat} {t : TypeId} {y0 y1 y2 y3 y4 y5 y6 y7 : Value} (h : w.heap[B]? = some (.cells #[y0, y1, y2, y3, y4, y5, y6, y7] t (0, 0))) (x0 x1 x2 x3 x4 x5 x6 x7 : Value) :
  ∃ W, ((((((((w.setCell ⟨B, 0, none⟩ x0).setCell ⟨B, 1, none⟩ x1).setCell ⟨B, 2, none⟩ x2).setCell ⟨B, 3, none⟩ x3).setCell ⟨B, 4, none⟩ x4).setCell ⟨B, 5, none⟩ x5).setCell ⟨B, 6, none⟩ x6).setCell ⟨B, 7, none⟩ x7) = W ∧ W.heap[B]? = some (.cells #[x0, x1, x2, x3, x4, x5, x6, x7] t (0, 0)) ∧ Ch [B] w W := by
 have b : Ch [B] w w := Ch.refl _ _
 have m : B ∈ [B] := List.mem_singleton_self _
 have s0 := set_at 0 x0 h (ds := #[x0, y1, y2, y3, y4, y5, y6, y7]) (by simp)
 have s1 := set_at 1 x1 s0 (ds := #[x0, x1, y2, y3, y4, y5, y6, y7]) (by simp)
 have s2 := set_at 2 x2 s1 (ds := #[x0, x1, x2, y3, y4, y5, y6, y7]) (by simp)
 have s3 := set_at 3 x3 s2 (ds := #[x0, x1, x2, x3, y4, y5, y6, y7]) (by simp)
 have s4 := set_at 4 x4 s3 (ds := #[x0, x1, x2, x3, x4, y5, y6, y7]) (by simp)
 have s5 := set_at 5 x5 s4 (ds := #[x0, x1, x2, x3, x4, x5, y6, y7]) (by simp)
 have s6 := set_at 6 x6 s5 (ds := #[x0, x1, x2, x3, x4, x5, x6, y7]) (by simp)
 have s7 := set_at 7 x7 s6 (ds := #[x0, x1, x2, x3, x4, x5, x6, x7]) (by simp)
 exact ⟨_, rfl, s7, ((((((((b.setCell (p := ⟨B, 0, none⟩) (.inl m) x0).setCell (p := ⟨B, 1, none⟩) (.inl m) x1).setCell (p := ⟨B, 2, none⟩) (.inl m) x2).setCell (p := ⟨B, 3, none⟩) (.inl m) x3).setCell (p := ⟨B, 4, none⟩) (.inl m) x4).setCell (p := ⟨B, 5, none⟩) (.inl m) x5).setCell (p := ⟨B, 6, none⟩) (.inl m) x6).setCell (p := ⟨B, 7, none⟩) (.inl m) x7)⟩
theorem tool_any (w : World) (P T : ByteArray) (k lo hi : Int) (h1 : 0 ≤ lo ∧ lo ≤ 1000) (h2 : 0 ≤ hi ∧ hi ≤ 1000) : Calls Tryz.prog 29 #[.agg #[.string P, .int .i64 k, .int .i64 0, .int .i64 0], .string T, .int .i64 lo, .int .i64 hi] w (fun e w' => ∃ g, e = .returned (.agg #[.string P, .int .i64 k, .int .i64 0, .int .i64 0, .string T, .slice (some ⟨g, 0, none⟩) 1 1, .slice none 0 0, .slice none 0 0]) ∧ w.heap.size ≤ g ∧ w'.heap[g]? = some (.cells #[.int .i64 (lo * 1000000), .int .i64 (hi * 1000000)] 125 (0, 0)) ∧ Below w.heap.size w w') := by
 obtain ⟨w1, hw1, hb1, hx1, y1, y2⟩ := aBk w #[.string P, .int .i64 k, .int .i64 0, .int .i64 0] 41
 obtain ⟨b0, hb0e⟩ : ∃ b, w.heap.size = b := ⟨_, rfl⟩
 obtain ⟨b1, hb1e⟩ : ∃ b, w1.heap.size = b := ⟨_, rfl⟩
 obtain ⟨w2, hw2, hb2, hx2, y3, y4⟩ := aBk w1 #[.string ⟨#[]⟩, .int .i64 0, .int .i64 0, .int .i64 0, .string ⟨#[]⟩, .slice none 0 0, .slice none 0 0, .slice none 0 0] 62
 obtain ⟨w3, hw3, hb3, hx3, y5, y6⟩ := aBk w2 #[.int .i64 (lo * 1000000), .int .i64 (hi * 1000000)] 125
 obtain ⟨b2, hb2e⟩ : ∃ b, w2.heap.size = b := ⟨_, rfl⟩
 have g0 := (hb2.block _ (by omega)).trans hx1
 have g1 := (hb3.block _ (by omega)).trans hx2
 rw [hb0e] at g0
 rw [hb1e] at g1
 rw [hb2e] at hx3
 obtain ⟨w4, hw4, hx4, hc4⟩ := eight_setR g1 (.string P) (.int .i64 k) (.int .i64 0) (.int .i64 0) (.string T) (.slice (some ⟨b2, 0, none⟩) 1 1) (.slice none 0 0) (.slice none 0 0)
 obtain ⟨k0, k1, k2, k3⟩ := cells4 g0
 obtain ⟨z0, z1, z2, z3, z4, z5, z6, z7⟩ := cells8 g1
 have zf := foh g1
 have hb13 := hb1.trans ((hb2.trans (hb3.mono hb2.size)).mono hb1.size)
 have HB := hdL (hb13.trans (boC hc4 (fun k hk => by rw [mSg.1 hk]; omega) hb13.size)); have HX3 := hdL ((hc4.block _ (loh hx3) (fun hm => by have := mSg.1 hm; omega)).trans hx3); have HX4 := hdL hx4; have HS := hdL (show w.heap.size ≤ b2 from by omega)
 clear hb1 hb2 hb3 hb13 hx1 hx2 hx3 hx4 hc4 g0 g1 y1 y2 y3 y4 y5 y6
 go_enter Tryz.func29, Tryz.ntmps29
 go_wp2_with fail
 try rw [hw4]
 obtain ⟨r0, r1, r2, r3, r4, r5, r6, r7⟩ := cells8 HX4.out
 refine bodyPost_ret (v := .agg #[.string P, .int .i64 k, .int .i64 0, .int .i64 0, .string T, .slice (some ⟨b2, 0, none⟩) 1 1, .slice none 0 0, .slice none 0 0]) (by simp [results, Tryz.results29, go_sem, r0, r1, r2, r3, r4, r5, r6, r7]) rfl ?_
 exact ⟨b2, rfl, HS.out, HX3.out, HB.out⟩
end Go.Proofs.YtaagkndhgicifaaGreat
