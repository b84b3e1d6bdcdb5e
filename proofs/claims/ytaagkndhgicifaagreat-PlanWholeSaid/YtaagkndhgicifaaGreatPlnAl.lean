/- DERIVED. What the document tells of plans is so. (Printed by plnalgen.py.) -/
import Derived.Test.YtaagkndhgicifaaGreatStgAl0
import Derived.Test.YtaagkndhgicifaaGreatPlnL
import Derived.Test.YtaagkndhgicifaaGreatPlnMake
namespace Go.Proofs.YtaagkndhgicifaaGreat
set_option maxHeartbeats 32000000
open Go.RowKit Go.Shelf
set_option linter.unusedVariables false
set_option linter.unusedSimpArgs false
set_option maxRecDepth 100000
theorem own_pmake {w0 w : World} {B : Nat} {st : St} (h : StkOwn w0 w B st) (left : Int) (hl : left ≤ 2000) (p : Pk) :
  Calls Tryz.prog 38 #[.pointer (some ⟨B, 0, none⟩), .agg #[strV p.1, .int .i64 p.2.1, .int .i64 p.2.2.1, .int .i64 p.2.2.2], .int .i64 left] w (PlanP (planT st p left) w) := by
 obtain ⟨F, h1, h2, h3⟩ := h
 exact pmake_any w B F st h1 left hl p
theorem need_A : needT L_A (n_cc, 3, 0, 0) = L_A := by
 have hg := fixT_good fix_A
 have h3 : tailT L_A (n_cc, 3, 0, 0) 3 = [] := tailT_end (Nat.le_refl _)
 have h2 := tailT_step hg (n_cc, 3, 0, 0) (k := 2) (e := ⟨(n_cc, 3, 0, 0), 2, ((n_cc, 2, 0, 0), [])⟩) rfl
 rw [h3] at h2
 have h1 := tailT_step hg (n_cc, 3, 0, 0) (k := 1) (e := ⟨(n_cc, 2, 0, 0), 1, ((n_cc, 1, 0, 0), [])⟩) rfl
 rw [h2] at h1
 have h0 := tailT_step hg (n_cc, 3, 0, 0) (k := 0) (e := ⟨(n_cc, 1, 0, 0), 0, ch0⟩) rfl
 rw [h1] at h0
 rw [tailT_zero] at h0
 refine h0.trans ?_
 decide
theorem plan_A : planT stA3 (n_cc, 3, 0, 0) 100 = (L_A, [], 0) := by
 rw [planT_need (by kernel_rfl) fix_A (by unfold L_A; decide), need_A]
theorem plan_B : planT stA3 (n_x, 1, 0, 0) 100 = ([], [(n_x, 1, 0, 0)], 61) := planT_less (by kernel_rfl) fix_A (by unfold L_A; decide)
theorem alive17_any (w : World) : Calls Tryz.prog 36 #[] w (fun e w' => e = .returned (.bool true) ∧ Below w.heap.size w w') := by
 go_enter Tryz.func36, Tryz.ntmps36
 go_wp2_with fail
 refine (stknew_any w).mono ?_
 rintro e w0 ⟨B, F0, rfl, hst, hF0, hb0⟩
 have HS0 := hdL (show StkOwn w w0 B St.empty from ⟨F0, hst, fun b hb => hF0 b hb, hb0⟩)
 clear hst hF0 hb0
 go_wp2_with fail
 refine (pkg_any w0 _ _).mono ?_
 rintro e w1 ⟨rfl, hb⟩
 have HS1 := hdL (HS0.out.below hb)
 clear hb
 go_wp2_with fail
 refine (own_seed HS1.out n_cc 1 (by decide) rfl).mono ?_
 rintro e w2 ⟨rfl, hs⟩
 have HS2 := hdL (show StkOwn w w2 B stA0 from hs)
 clear hs
 go_wp2_with fail
 refine (pkg_any w2 _ _).mono ?_
 rintro e w3 ⟨rfl, hb⟩
 have HS3 := hdL (HS2.out.below hb)
 clear hb
 go_wp2_with fail
 refine (tool_any w3 _ _ _ _ _ (by decide) (by decide)).mono ?_
 rintro e w4 ⟨g4, rfl, hg, hx, hb⟩
 have HS4 := hdL (HS3.out.below hb)
 have HX := hdL hx; clear hg hx hb
 go_wp2_with fail
 refine (own_tool HS4.out n_cc n_cc 2 0 2 (by decide) (by decide) rfl rfl HX.out).mono ?_
 rintro e w5 ⟨rfl, hs⟩
 have HS5 := hdL (show StkOwn w w5 B stA1 from hs)
 clear hs HX
 go_wp2_with fail
 refine (pkg_any w5 _ _).mono ?_
 rintro e w6 ⟨rfl, hb⟩
 have HS6 := hdL (HS5.out.below hb)
 clear hb
 go_wp2_with fail
 refine (tool_any w6 _ _ _ _ _ (by decide) (by decide)).mono ?_
 rintro e w7 ⟨g7, rfl, hg, hx, hb⟩
 have HS7 := hdL (HS6.out.below hb)
 have HX := hdL hx; clear hg hx hb
 go_wp2_with fail
 refine (own_tool HS7.out n_cc n_cc 3 2 9 (by decide) (by decide) rfl rfl HX.out).mono ?_
 rintro e w8 ⟨rfl, hs⟩
 have HS8 := hdL (show StkOwn w w8 B stA2 from hs)
 clear hs HX
 go_wp2_with fail
 refine (pkg_any w8 _ _).mono ?_
 rintro e w9 ⟨rfl, hb⟩
 have HS9 := hdL (HS8.out.below hb)
 clear hb
 go_wp2_with fail
 refine (tool_any w9 _ _ _ _ _ (by decide) (by decide)).mono ?_
 rintro e w10 ⟨g10, rfl, hg, hx, hb⟩
 have HS10 := hdL (HS9.out.below hb)
 have HX := hdL hx; clear hg hx hb
 go_wp2_with fail
 refine (own_tool HS10.out n_x n_x 1 0 9 (by decide) (by decide) rfl rfl HX.out).mono ?_
 rintro e w11 ⟨rfl, hs⟩
 have HS11 := hdL (show StkOwn w w11 B stA3 from hs)
 clear hs HX
 go_wp2_with fail
 refine (pkg_any w11 _ _).mono ?_
 rintro e w12 ⟨rfl, hb⟩
 have HS12 := hdL (HS11.out.below hb)
 clear hb
 have hpm := own_pmake HS12.out 100 (by decide) (n_cc, 3, 0, 0)
 rw [plan_A] at hpm
 have HPM := hdL hpm; clear hpm
 go_wp2_with fail
 refine HPM.out.mono ?_
 intro e w13 hpp
 obtain ⟨hb, aA, nA, cA, osA, alA, nlA, clA, rfl, hosA, hmpA, hnlA, hrwA⟩ := hpp
 dsimp only at hmpA hnlA hrwA ⊢
 have HS13 := hdL (HS12.out.below hb); clear hb HPM
 obtain ⟨w14, hw14, hb, hx, z1, z2⟩ := aBk w13 #[.slice aA nA cA, .slice alA nlA clA] 81
 obtain ⟨bA, hbA⟩ : ∃ b, w13.heap.size = b := ⟨_, rfl⟩
 rw [hbA] at hx
 have HS14 := hdL (HS13.out.below hb)
 have hlA : nA = 3 := by rw [hosA.1]; have := congrArg List.length hmpA; rw [List.length_map] at this; exact this
 subst hlA
 obtain ⟨y1, hy1, hye⟩ : ∃ y, osA[1]? = some y ∧ y.1 = ⟨(n_cc, 2, 0, 0), 1, ((n_cc, 1, 0, 0), [])⟩ := by
  have h1 := congrArg (fun l => l[1]?) hmpA
  simp only [List.getElem?_map] at h1
  cases hy : osA[1]? with
  | none => rw [hy] at h1; cases h1
  | some y => rw [hy] at h1; exact ⟨y, rfl, sIj h1⟩
 obtain ⟨bR, oR, S', T', rfl, hS', hT', -, c0, c1, c2, c3, -⟩ := ((hosA.below hb).ents (by omega)).cells hy1
 rw [hye] at hS' c1 c2 c3
 obtain rfl : S' = ⟨#[99, 99]⟩ := by injection hS' with hS'; exact hS'.symm
 dsimp only at c1 c2 c3
 have HXA := hdL hx; have HC := hdL (And.intro c0 (And.intro c1 (And.intro c2 c3)))
 clear hb hx z1 z2 hosA hmpA hnlA hrwA hy1 hye hS' hT' c0 c1 c2 c3
 go_wp2_with fail
 refine (pkg_any w14 _ _).mono ?_
 rintro e w15 ⟨rfl, hb⟩
 have HS15 := hdL (HS14.out.below hb)
 have HK := hdL hb
 clear hb
 have hpm := own_pmake HS15.out 100 (by decide) (n_x, 1, 0, 0)
 rw [plan_B] at hpm
 have HPM := hdL hpm; clear hpm
 go_wp2_with fail
 refine HPM.out.mono ?_
 intro e w16 hpp
 obtain ⟨hb, aB, nB, cB, osB, alB, nlB, clB, rfl, hosB, hmpB, hnlB, hrwB⟩ := hpp
 dsimp only at hmpB hnlB hrwB ⊢
 have HK2 := hdL (HK.out.trans (hb.mono HK.out.size))
 have HS16 := hdL (HS15.out.below hb); clear hb HPM
 obtain ⟨w17, hw17, hb, hx, z1, z2⟩ := aBk w16 #[.slice aB nB cB, .slice alB nlB clB] 81
 obtain ⟨bB, hbB⟩ : ∃ b, w16.heap.size = b := ⟨_, rfl⟩
 rw [hbB] at hx
 have HK3 := hdL (HK2.out.trans (hb.mono HK2.out.size))
 have HS17 := hdL (HS16.out.below hb)
 obtain rfl : nlB = 1 := hnlB
 have HXB := hdL hx
 clear hosB hmpB hrwB hb hx z1 z2
 obtain ⟨ι, F, hF0, hFB, hFG⟩ := below_fam w17
 have hpf := fun (T : ByteArray) (i : Int) => calls_fam hFB hFG (fun W _ => pkg_any W T i)
 have hxA := (HK3.out.block _ (loh HXA.out)).trans HXA.out
 have hcA : ∀ n, (F n).heap[bA]? = some (.cells #[.slice (some ⟨bR, oR, none⟩) 3 cA, .slice alA nlA clA] 81 (0, 0)) := fun n => ((hFB n).block bA (loh hxA)).trans hxA
 have hcB : ∀ n, (F n).heap[bB]? = some (.cells #[.slice aB nB cB, .slice alB 1 clB] 81 (0, 0)) := fun n => ((hFB n).block bB (loh HXB.out)).trans HXB.out
 have p0 := fun n => cOh (hcA n) 0
 have p1 := fun n => cOh (hcA n) 1
 have r0 := fun n => cOh (hcB n) 0
 have r1 := fun n => cOh (hcB n) 1
 have hcc := HC.out
 have l0 : ∀ n, (F n).cell? ⟨bR, oR + 10, none⟩ = some (.string ⟨#[99, 99]⟩) := fun n => bkp (hFB n) _ _ (bkp HK3.out _ _ (by have := hcc.1; simpa using this))
 have l1 : ∀ n, (F n).cell? ⟨bR, oR + 10 + 1, none⟩ = some (.int .i64 2) := fun n => bkp (hFB n) _ _ (bkp HK3.out _ _ (by have := hcc.2.1; simpa using this))
 have l2 : ∀ n, (F n).cell? ⟨bR, oR + 10 + 2, none⟩ = some (.int .i64 0) := fun n => bkp (hFB n) _ _ (bkp HK3.out _ _ (by have := hcc.2.2.1; simpa using this))
 have l3 : ∀ n, (F n).cell? ⟨bR, oR + 10 + 3, none⟩ = some (.int .i64 0) := fun n => bkp (hFB n) _ _ (bkp HK3.out _ _ (by have := hcc.2.2.2; simpa using this))
 have q0 : ∀ W, (binOp .eql 41 (.agg #[.string ⟨#[99, 99]⟩, .int .i64 2, .int .i64 0, .int .i64 0]) (.agg #[.string ⟨#[99, 99]⟩, .int .i64 2, .int .i64 0, .int .i64 0])).run Tryz.prog W = .ok (.bool true) W := fun W => eqPk.1 (n_cc, 2, 0, 0) (n_cc, 2, 0, 0) W
 have HPF := hdL hpf; have HFB := hdL hFB; have HF0 := hdL hF0
 clear hpf hFB hF0 hFG hcA hcB hxA hcc HC
 go_wp2_with fail
 obtain ⟨n0, hn0⟩ := HF0.out 1
 have hne : Nonempty ι := ⟨n0⟩
 refine wp_region_fam F n0 hn0 (by kernel_rfl) (by kernel_rfl) ?_
 repeat (go_big_quiet_step ((go_at_call 68; exact HPF.out _ _ _)))
 refine wpQuiet_nil ?_
 intro _ hw'
 obtain ⟨m0, hw''⟩ := hw'
 subst hw''
 go_wp2_with fail
 go_ret
 exact ⟨rfl, HS17.out.below0.trans ((HFB.out _).mono HS17.out.below0.size)⟩
end Go.Proofs.YtaagkndhgicifaaGreat
