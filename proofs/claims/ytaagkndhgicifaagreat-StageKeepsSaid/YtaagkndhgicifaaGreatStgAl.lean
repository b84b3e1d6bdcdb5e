/- DERIVED. What the document tells of stages is so. (Printed by stalgen.py.) -/
import Derived.Test.YtaagkndhgicifaaGreatStgL
import Derived.Test.YtaagkndhgicifaaGreatStgAl0
import Derived.Test.YtaagkndhgicifaaGreatStgGetA
namespace Go.Proofs.YtaagkndhgicifaaGreat
set_option maxHeartbeats 32000000
open Go.RowKit Go.Shelf
set_option linter.unusedVariables false
set_option linter.unusedSimpArgs false
set_option maxRecDepth 100000
theorem get_A : getE L_A (n_cc, 3, 0, 0) = (⟨(n_cc, 3, 0, 0), 2, ((n_cc, 2, 0, 0), [])⟩, true) := by kernel_rfl
theorem alive_any (w : World) : Calls Tryz.prog 14 #[] w (fun e w' => e = .returned (.bool true) ∧ Below w.heap.size w w') := by
 have HAL := hdL (sallf_any w none)
 have hfn : ∀ x (W : World), (binOp BinOp.eql 36 (Value.func (Fn.func 48) #[] #[.pointer (some ⟨x, 0, none⟩)]) Value.nilFunc).run Tryz.prog W = .ok (.bool false) W := fun _ _ => by kernel_rfl
 go_enter Tryz.func14, Tryz.ntmps14
 go_wp2_with fail
 refine HAL.out.mono ?_
 rintro e wA ⟨rfl, hwA⟩
 have hA : Below w.heap.size w wA := by obtain ⟨wa, hwa, hba, -⟩ := aBk w #[.pointer none] 31; rw [hwA, hwa]; exact hba
 have HA := hdL hA; clear hwA hA
 go_wp2_with fail
 refine (stknew_any wA).mono ?_
 rintro e w0 ⟨B, F0, rfl, hst, hF0, hb0⟩
 have HS0 := hdL (show StkOwn w w0 B St.empty from ⟨F0, hst, fun b hb => Nat.le_trans HA.out.size (hF0 b hb), HA.out.trans (hb0.mono HA.out.size)⟩)
 clear hst hF0 hb0
 go_wp2_with fail
 refine (pkg_any w0 _ _).mono ?_
 rintro e w1 ⟨rfl, hb⟩
 have HS1 := hdL (HS0.out.below hb)
 clear hb
 go_wp2_with fail
 refine (own_seed HS1.out n_cc 1 (by decide) rfl).mono ?_
 rintro e w2 ⟨rfl, hs⟩
 have HS2 := hdL (show StkOwn w w2 B stA0 from hs)
 clear hs
 go_wp2_with fail
 refine (pkg_any w2 _ _).mono ?_
 rintro e w3 ⟨rfl, hb⟩
 have HS3 := hdL (HS2.out.below hb)
 clear hb
 go_wp2_with fail
 refine (tool_any w3 _ _ _ _ _ (by decide) (by decide)).mono ?_
 rintro e w4 ⟨g4, rfl, hg, hx, hb⟩
 have HS4 := hdL (HS3.out.below hb)
 have HX := hdL hx; clear hg hx hb
 go_wp2_with fail
 refine (own_tool HS4.out n_cc n_cc 2 0 2 (by decide) (by decide) rfl rfl HX.out).mono ?_
 rintro e w5 ⟨rfl, hs⟩
 have HS5 := hdL (show StkOwn w w5 B stA1 from hs)
 clear hs HX
 go_wp2_with fail
 refine (pkg_any w5 _ _).mono ?_
 rintro e w6 ⟨rfl, hb⟩
 have HS6 := hdL (HS5.out.below hb)
 clear hb
 go_wp2_with fail
 refine (tool_any w6 _ _ _ _ _ (by decide) (by decide)).mono ?_
 rintro e w7 ⟨g7, rfl, hg, hx, hb⟩
 have HS7 := hdL (HS6.out.below hb)
 have HX := hdL hx; clear hg hx hb
 go_wp2_with fail
 refine (own_tool HS7.out n_cc n_cc 3 2 9 (by decide) (by decide) rfl rfl HX.out).mono ?_
 rintro e w8 ⟨rfl, hs⟩
 have HS8 := hdL (show StkOwn w w8 B stA2 from hs)
 clear hs HX
 go_wp2_with fail
 refine (pkg_any w8 _ _).mono ?_
 rintro e w9 ⟨rfl, hb⟩
 have HS9 := hdL (HS8.out.below hb)
 clear hb
 go_wp2_with fail
 refine (tool_any w9 _ _ _ _ _ (by decide) (by decide)).mono ?_
 rintro e w10 ⟨g10, rfl, hg, hx, hb⟩
 have HS10 := hdL (HS9.out.below hb)
 have HX := hdL hx; clear hg hx hb
 go_wp2_with fail
 refine (own_tool HS10.out n_x n_x 1 0 9 (by decide) (by decide) rfl rfl HX.out).mono ?_
 rintro e w11 ⟨rfl, hs⟩
 have HS11 := hdL (show StkOwn w w11 B stA3 from hs)
 clear hs HX
 go_wp2_with fail
 refine (own_fix HS11.out 100 (by decide)).mono ?_
 intro e w12 hfx
 obtain ⟨hb, Tb, es, rfl, hes, hsg⟩ := hfx.some fix_A
 have HB12 := hdL (HS11.out.below0.trans (hb.mono HS11.out.below0.size)); have HSG := hdL hsg; have HES := hdL hes; clear hfx hb hsg hes
 go_wp2_with fail
 refine (pkg_any w12 _ _).mono ?_
 rintro e w13 ⟨rfl, hb⟩
 have HB13 := hdL (HB12.out.trans (hb.mono HB12.out.size)); have HSG2 := hdL (HSG.out.below hb); clear hb
 have hge := sget_any w13 _ Tb es _ _ HSG2.out (n_cc, 3, 0, 0)
 have HGE := hdL hge; clear hge
 go_wp2_with fail
 refine HGE.out.mono ?_
 intro e w14 hgp
 rw [HES.out] at hgp
 obtain ⟨hb, a, c, he, -⟩ := hgp
 rw [get_A] at he
 replace he : e = .returned (.tuple #[.agg #[.string ⟨#[99, 99]⟩, .int .i64 3, .int .i64 0, .int .i64 0, .int .i64 2, .string ⟨#[99, 99]⟩, .int .i64 2, .int .i64 0, .int .i64 0, .slice a 0 c], .bool true]) := he
 subst he
 have HB14 := hdL (HB13.out.trans (hb.mono HB13.out.size)); have HSG3 := hdL (HSG2.out.below hb); clear hb
 obtain ⟨w15, hw15, hb', hx', z1, z2⟩ := aBk w14 #[.string ⟨#[99, 99]⟩, .int .i64 3, .int .i64 0, .int .i64 0, .int .i64 2, .string ⟨#[99, 99]⟩, .int .i64 2, .int .i64 0, .int .i64 0, .slice a 0 c] 45
 obtain ⟨bE, hbE⟩ : ∃ b, w14.heap.size = b := ⟨_, rfl⟩
 rw [hbE] at hx'
 have HB15 := hdL (HB14.out.trans (hb'.mono HB14.out.size)); have HSG4 := hdL (HSG3.out.below hb'); have HXE := hdL hx'; clear hb' hx' z1 z2
 go_wp2_with fail
 refine (sless_any w15 _ Tb es _ _ HSG4.out).mono ?_
 rintro e w16 ⟨al, cl, rfl, hr, hb⟩
 have hpl := (hr.at (by show 1 ≤ _; omega)).cells (k := 0) (q := (n_x, 1, 0, 0)) rfl
 obtain ⟨bL, oL, S, rfl, hS, f0, f1, f2, f3⟩ := hpl
 obtain rfl : S = ⟨#[120]⟩ := by injection hS with hS; exact hS.symm
 have HB16 := hdL (HB15.out.trans (hb.mono HB15.out.size))
 have hxe := (hb.block _ (loh HXE.out)).trans HXE.out
 obtain ⟨ι, F, hF0, hFB, hFG⟩ := below_fam w16
 have hpf := fun (T : ByteArray) (i : Int) => calls_fam hFB hFG (fun W _ => pkg_any W T i)
 have hcF : ∀ n, (F n).heap[bE]? = some (.cells #[.string ⟨#[99, 99]⟩, .int .i64 3, .int .i64 0, .int .i64 0, .int .i64 2, .string ⟨#[99, 99]⟩, .int .i64 2, .int .i64 0, .int .i64 0, .slice a 0 c] 45 (0, 0)) := fun n => ((hFB n).block bE (loh hxe)).trans hxe
 have e0 := fun n => cOh (hcF n) 0
 have e1 := fun n => cOh (hcF n) 1
 have e2 := fun n => cOh (hcF n) 2
 have e3 := fun n => cOh (hcF n) 3
 have e4 := fun n => cOh (hcF n) 4
 have e5 := fun n => cOh (hcF n) 5
 have e6 := fun n => cOh (hcF n) 6
 have e7 := fun n => cOh (hcF n) 7
 have e8 := fun n => cOh (hcF n) 8
 have e9 := fun n => cOh (hcF n) 9
 have l0 : ∀ n, (F n).cell? ⟨bL, oL, none⟩ = some (.string ⟨#[120]⟩) := fun n => bkp (hFB n) _ _ (by simpa using f0)
 have l1 : ∀ n, (F n).cell? ⟨bL, oL + 1, none⟩ = some (.int .i64 1) := fun n => bkp (hFB n) _ _ (by simpa using f1)
 have l2 : ∀ n, (F n).cell? ⟨bL, oL + 2, none⟩ = some (.int .i64 0) := fun n => bkp (hFB n) _ _ (by simpa using f2)
 have l3 : ∀ n, (F n).cell? ⟨bL, oL + 3, none⟩ = some (.int .i64 0) := fun n => bkp (hFB n) _ _ (by simpa using f3)
 have q0 : ∀ W, (binOp .eql 41 (.agg #[.string ⟨#[99, 99]⟩, .int .i64 2, .int .i64 0, .int .i64 0]) (.agg #[.string ⟨#[99, 99]⟩, .int .i64 2, .int .i64 0, .int .i64 0])).run Tryz.prog W = .ok (.bool true) W := fun W => eqPk.1 (n_cc, 2, 0, 0) (n_cc, 2, 0, 0) W
 have q1 : ∀ W, (binOp .eql 41 (.agg #[.string ⟨#[120]⟩, .int .i64 1, .int .i64 0, .int .i64 0]) (.agg #[.string ⟨#[120]⟩, .int .i64 1, .int .i64 0, .int .i64 0])).run Tryz.prog W = .ok (.bool true) W := fun W => eqPk.1 (n_x, 1, 0, 0) (n_x, 1, 0, 0) W
 have HPF := hdL hpf; have HFB := hdL hFB; have HF0 := hdL hF0
 clear hpf hFB hF0 hFG hcF hb hr hxe hS f0 f1 f2 f3
 go_wp2_with fail
 obtain ⟨n0, hn0⟩ := HF0.out 1
 have hne : Nonempty ι := ⟨n0⟩
 refine wp_region_fam F n0 hn0 (by kernel_rfl) (by kernel_rfl) ?_
 repeat (go_big_quiet_step ((go_at_call 27; exact HPF.out _ _ _)))
 refine wpQuiet_nil ?_
 intro _ hw'
 obtain ⟨m0, hw''⟩ := hw'
 subst hw''
 go_wp2_with fail
 go_ret
 exact ⟨rfl, HB16.out.trans ((HFB.out _).mono HB16.out.size)⟩
end Go.Proofs.YtaagkndhgicifaaGreat
