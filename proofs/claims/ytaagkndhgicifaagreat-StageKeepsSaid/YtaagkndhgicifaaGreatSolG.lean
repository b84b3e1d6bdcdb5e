/- DERIVED. Solve, walked. -/
import Derived.Test.YtaagkndhgicifaaGreatSv10
namespace Go.Proofs.YtaagkndhgicifaaGreat
set_option maxHeartbeats 32000000
open Go.RowKit Go.Shelf
set_option linter.unusedVariables false
set_option linter.unusedSimpArgs false
set_option maxRecDepth 100000
def SolveP (w0 : World) (r : Ch5 × Int × Int) (e : Ending) (w' : World) : Prop := ∃ (v : Value) (s : ByteArray) (a : Option Addr) (n c : Nat), v = .slice a n c ∧ n = r.1.2.length ∧ strV r.1.1.1 = .string s ∧
 e = .returned (.tuple #[.agg #[.string s, .int .i64 r.1.1.2.1, .int .i64 r.1.1.2.2.1, .int .i64 r.1.1.2.2.2, v], .int .i64 r.2.1, .int .i64 r.2.2]) ∧ ownsC w' w0.heap.size 41 4 v r.1.2.length (r.1.2.flatMap pkL) ∧ Below w0.heap.size w0 w'
theorem solveP_none {w0 w' : World} {m e0 : Int} (h : Below w0.heap.size w0 w') : SolveP w0 (ch0, m, e0) (.returned (.tuple #[.agg #[.string ⟨#[]⟩, .int .i64 0, .int .i64 0, .int .i64 0, .slice none 0 0], .int .i64 m, .int .i64 e0])) w' :=
 ⟨.slice none 0 0, ⟨#[]⟩, none, 0, 0, rfl, rfl, rfl, rfl, ownsC_nil _ _ _ _, h⟩
theorem recipeP_some {st : St} {p : Pk} {w w' : World} {e : Ending} {r : Rc} (hr : st.rec? p = some r) (h : RecipeP st p w e w') : ∃ vs : List Value, e = .returned (.tuple #[.agg vs.toArray, .bool true]) ∧ Below w.heap.size w w' ∧ RecAt (zNew w.heap.size) w' vs r ∧ BuildO w.heap.size w' vs r := by
 obtain ⟨vs, b, rfl, hb, ⟨r', hr', rfl, h1, h2⟩ | ⟨hr', -⟩⟩ := h
 ·rw [hr] at hr'
  obtain rfl := sIj hr'
  exact ⟨vs, rfl, hb, h1, h2⟩
 ·rw [hr] at hr'
  cases hr'
theorem one_set {w : World} {B : Nat} {t : TypeId} {y : Value} (h : w.heap[B]? = some (.cells #[y] t (0, 0))) (x : Value) : ∃ W, w.setCell ⟨B, 0, none⟩ x = W ∧ W.heap[B]? = some (.cells #[x] t (0, 0)) ∧ Ch [B] w W :=
 ⟨_, rfl, heap_setCell_here (i := 0) x h, (Ch.refl [B] w).setCell (p := ⟨B, 0, none⟩) (.inl (List.mem_singleton_self _)) x⟩
def NoP (Q : Exit → Act → World → Prop) : Exit → Act → World → Prop
 | .panic _, _, _ => False
 | e, a, w => Q e a w
theorem wp_noP {P : Program} {c : Code} {Q : Exit → Act → World → Prop} {a : Act} {w : World} (h : c.wp P (NoP Q) a w) : c.wp P Q a w := Code.wp_mono (fun e a w h => by cases e <;> first | exact h | exact h.elim) h
theorem NoP.go {Q : Exit → Act → World → Prop} {a : Act} {w : World} (h : Q .normal a w) : NoP Q .normal a w := h
theorem solveP_some {w0 w' : World} {t : Pk} {c : List Pk} {sT : ByteArray} {tx ty tz : Int} {aC : Option Addr} {nc cC : Nat} {m : Int} (h1 : strV t.1 = .string sT ∧ tx = t.2.1 ∧ ty = t.2.2.1 ∧ tz = t.2.2.2) (hn : nc = c.length)
  (ho : ownsC w' w0.heap.size 41 4 (.slice aC nc cC) c.length ((sortP c).flatMap pkL)) (hb : Below w0.heap.size w0 w') :
  SolveP w0 ((t, sortP c), m, 0) (.returned (.tuple #[.agg #[.string sT, .int .i64 tx, .int .i64 ty, .int .i64 tz, .slice aC nc cC], .int .i64 m, .int .i64 0])) w' := by
 obtain ⟨h1, rfl, rfl, rfl⟩ := h1
 have hl : (sortP c).length = c.length := by
  have := ho.1
  rw [flat_len pkL_len] at this
  omega
 refine ⟨.slice aC nc cC, sT, aC, nc, cC, rfl, by rw [hl]; exact hn, h1, rfl, by rw [hl]; exact ho, hb⟩
theorem below_grownS {w w' w'' : World} {v : Value} (h : Below w.heap.size w w') (hg : w'.grownBy w'' v.ownBlock) (hv : ∀ g, v.ownBlock = some g → w.heap.size ≤ g) : Below w.heap.size w w'' :=
 ⟨hg.os.trans h.os, hg.tape.trans h.tape, hg.output.trans h.output, Nat.le_trans h.size hg.size, fun k hk => (hg.block k (Nat.lt_of_lt_of_le hk h.size) (fun e => by have := hv k e.symm; omega)).trans (h.block k hk)⟩
theorem build_len {w : World} {B : Nat} {F : List Nat} {st : St} (h : StkAt w B F st) {p : Pk} {r : Rc} (hr : st.rec? p = some r) : r.build.length ≤ 8 := by
 have hg := rec_good h hr
 unfold goodRc at hg
 simp only [Bool.and_eq_true] at hg
 have := hg.2.2.1
 unfold depsB at this
 simp only [Bool.and_eq_true, decide_eq_true_eq] at this
 exact this.1
theorem srAt_start {w0 w5 w8 : World} {base Hb B : Nat} {vp v : Value} {left : Int} {ws : List Dp} (h : OwnDeps base w5 v ws) (hb : Below w5.heap.size w5 w8) (hle : w0.heap.size ≤ base) (hc : w8.heap[Hb]? = some (.cells #[.pointer (some ⟨B, 0, none⟩), vp, v, .slice none 0 0, .int .i64 left, .int .i64 0] 146 (0, 0))) (hw : w0.heap.size ≤ w5.heap.size) (hH : w5.heap.size ≤ Hb) :
  ∃ xs, SrAt w8 Hb B w0.heap.size vp left ws [] 0 v (.slice none 0 0) xs := by
 obtain ⟨xs, h1, h2, -⟩ := h
 have h3 : ownsC w5 w0.heap.size 59 2 v ws.length xs := by
  have := ownsC_of h1
  refine ⟨this.1, ?_⟩
  rcases this.2 with h | ⟨g, cap, cur, e, hg, rest⟩
  ·exact .inl h
  ·exact .inr ⟨g, cap, cur, e, Nat.le_trans hle hg, rest⟩
 refine ⟨xs, hc, Nat.le_trans hw hH, ownsC_below h3 hb, fun i d hi => ?_, ownsC_nil _ _ _ _⟩
 obtain ⟨v0, v1, g0, g1, g2⟩ := h2 i d hi
 exact ⟨v0, v1, g0, g1, g2.keep ⟨fun b hl hz => ⟨by omega, hz.2, fun e => by cases e⟩, hb.size, fun a u _ hu => bkp hb _ _ hu⟩⟩
theorem solve_none (w0 : World) (B : Nat) (F : List Nat) (st : St) (h0 : StkAt w0 B F st) (p : Pk) (vp : Value) (left : Int) (hr : st.rec? p = none) :
  Calls Tryz.prog 47 #[.pointer (some ⟨B, 0, none⟩), .agg #[strV p.1, .int .i64 p.2.1, .int .i64 p.2.2.1, .int .i64 p.2.2.2], vp, .int .i64 left] w0 (SolveP w0 (ch0, 0, 14)) := by
 obtain ⟨T, -, hT, -, -⟩ := strV_is p.1
 obtain ⟨w1, hw1, hb1, hx1, y1, y2⟩ := aBk w0 #[strV p.1, .int .i64 p.2.1, .int .i64 p.2.2.1, .int .i64 p.2.2.2] 41
 obtain ⟨w2, hw2, hb2, hx2, y3, y4⟩ := aBk w1 #[.string ⟨#[]⟩, .int .i64 0, .int .i64 0, .int .i64 0, .slice none 0 0] 43
 obtain ⟨w3, hw3, hb3, hx3, y5, y6⟩ := aBk w2 #[.int .i64 0] 3
 obtain ⟨w4, hw4, hb4, hx4, y7, y8⟩ := aBk w3 #[.int .i64 0] 32
 obtain ⟨b, hb⟩ : ∃ b, w0.heap.size = b := ⟨_, rfl⟩
 obtain ⟨b8, hb8⟩ : ∃ b, w1.heap.size = b := ⟨_, rfl⟩
 obtain ⟨b9, hb9⟩ : ∃ b, w2.heap.size = b := ⟨_, rfl⟩
 obtain ⟨b10, hb10⟩ : ∃ b, w3.heap.size = b := ⟨_, rfl⟩
 have hb12 := hb1.trans (hb2.mono hb1.size)
 have hb13 := hb12.trans (hb3.mono hb12.size)
 have hb14 := hb13.trans (hb4.mono hb13.size)
 have e1 := (hb4.block _ (by omega)).trans ((hb3.block _ (by omega)).trans ((hb2.block _ (by omega)).trans hx1))
 have e2 := (hb4.block _ (by omega)).trans ((hb3.block _ (by omega)).trans hx2)
 have e3 := (hb4.block _ (by omega)).trans hx3
 rw [hb, hT] at e1; rw [hb8] at e2; rw [hb9] at e3; rw [hb10] at hx4
 rw [hT] at hw1
 have hrec := stkrecipe_any w4 B F st (h0.below hb14) p
 rw [hT] at hrec ⊢
 obtain ⟨pn, p1, p2, p3⟩ := p
 dsimp only at e1 hw1 hrec ⊢
 obtain ⟨k0, k1, k2, k3⟩ := cells4 e1
 have HREC := hdL hrec; have HR := hdL hr; have HB := hdL hb14
 have H2 := hdL e2; have H3 := hdL e3; have H4 := hdL hx4
 have HSZ := hdL (show w0.heap.size = b ∧ b8 = b + 1 ∧ b9 = b + 2 ∧ b10 = b + 3 ∧ w4.heap.size = b + 4 from by omega)
 clear hrec hr hb1 hb2 hb3 hb4 hb12 hb13 hb14 hx1 hx2 hx3 hx4 e1 e2 e3 hT y1 y2 y3 y4 y5 y6 y7 y8
 go_enter_defers Tryz.func47, Tryz.ntmps47
 go_wp2_with fail
 refine HREC.out.mono ?_
 rintro e w5 ⟨vs, bb, rfl, h5, ⟨r, hr, -⟩ | ⟨-, rfl, rfl⟩⟩
 ·have := HR.out
  rw [hr] at this
  cases this
 obtain ⟨w6, hw6, hb6, hx6, y1, y2⟩ := aBk w5 #[.string ⟨#[]⟩, .int .i64 0, .int .i64 0, .int .i64 0, .string ⟨#[]⟩, .slice none 0 0, .slice none 0 0, .slice none 0 0] 62
 have hb46 := h5.trans (hb6.mono h5.size)
 have g8 := (hb46.block _ (loh H2.out)).trans H2.out
 have g9 := (hb46.block _ (loh H3.out)).trans H3.out
 have g10 := (hb46.block _ (loh H4.out)).trans H4.out
 obtain ⟨f0, f1, f2, f3, f4⟩ := cells5 g8
 have ff := foh g8
 have m0 := cOh g9 0
 have mf := foh g9
 have q0 := cOh g10 0
 have qf := foh g10
 have n1 : ¬ b8 = b9 := by have := HSZ.out; omega
 have n2 : ¬ b8 = b10 := by have := HSZ.out; omega
 have n3 : ¬ b9 = b10 := by have := HSZ.out; omega
 have n4 : ¬ b9 = b8 := fun e => n1 e.symm
 have n5 : ¬ b10 = b8 := fun e => n2 e.symm
 have n6 : ¬ b10 = b9 := fun e => n3 e.symm
 have G8 := hdL g8; have G9 := hdL g9; have G10 := hdL g10; have HB6 := hdL (HB.out.trans (hb46.mono HB.out.size)); have HN := hdL (And.intro n1 (And.intro n2 n3))
 clear g8 g9 g10 h5 hb6 hx6 y1 y2 hb46 k0 k1 k2 k3
 subst hw6
 unfold zero8
 go_wp2_with fail
 obtain ⟨W, hW, hWc, hW8, hW9, hW10⟩ := three_set (Ch.refl [b8, b9, b10] _) G8.out G9.out G10.out HN.out.1 HN.out.2.1 HN.out.2.2 (.string ⟨#[]⟩) (.int .i64 0) (.int .i64 0) (.int .i64 0) (.slice none 0 0) (.int .i64 0) (.int .i64 14)
 rw [hW]
 clear hW f0 f1 f2 f3 f4 ff m0 mf q0 qf
 obtain ⟨r0, r1, r2, r3, r4⟩ := cells5 hW8
 have r5 := cOh hW9 0
 have r6 := cOh hW10 0
 refine ⟨.tuple #[.agg #[.string ⟨#[]⟩, .int .i64 0, .int .i64 0, .int .i64 0, .slice none 0 0], .int .i64 0, .int .i64 14], by simp [results, Tryz.results47, go_sem, r0, r1, r2, r3, r4, r5, r6], ?_⟩
 exact solveP_none (HB6.out.trans (boC hWc (fun k hk => by have := HSZ.out; simp at hk; omega) HB6.out.size))
theorem solve_some (w0 : World) (B : Nat) (F : List Nat) (st : St) (h0 : StkAt w0 B F st) (p : Pk) (vp : Value) (Zp : Zone) (pool : List Pk) (hp0 : PkgsAt Zp w0 vp pool) (left : Int) (hl : left ≤ 2000) (r : Rc) (hr : st.rec? p = some r) :
  Calls Tryz.prog 47 #[.pointer (some ⟨B, 0, none⟩), .agg #[strV p.1, .int .i64 p.2.1, .int .i64 p.2.2.1, .int .i64 p.2.2.2], vp, .int .i64 left] w0 (SolveP w0 (solveT st p pool left)) := by
 obtain ⟨T, -, hT, -, -⟩ := strV_is p.1
 obtain ⟨w1, hw1, hb1, hx1, y1, y2⟩ := aBk w0 #[strV p.1, .int .i64 p.2.1, .int .i64 p.2.2.1, .int .i64 p.2.2.2] 41
 obtain ⟨w2, hw2, hb2, hx2, y3, y4⟩ := aBk w1 #[.string ⟨#[]⟩, .int .i64 0, .int .i64 0, .int .i64 0, .slice none 0 0] 43
 obtain ⟨w3, hw3, hb3, hx3, y5, y6⟩ := aBk w2 #[.int .i64 0] 3
 obtain ⟨w4, hw4, hb4, hx4, y7, y8⟩ := aBk w3 #[.int .i64 0] 32
 obtain ⟨b, hb⟩ : ∃ b, w0.heap.size = b := ⟨_, rfl⟩
 obtain ⟨b8, hb8⟩ : ∃ b, w1.heap.size = b := ⟨_, rfl⟩
 obtain ⟨b9, hb9⟩ : ∃ b, w2.heap.size = b := ⟨_, rfl⟩
 obtain ⟨b10, hb10⟩ : ∃ b, w3.heap.size = b := ⟨_, rfl⟩
 have hb12 := hb1.trans (hb2.mono hb1.size)
 have hb13 := hb12.trans (hb3.mono hb12.size)
 have hb14 := hb13.trans (hb4.mono hb13.size)
 have e1 := (hb4.block _ (by omega)).trans ((hb3.block _ (by omega)).trans ((hb2.block _ (by omega)).trans hx1))
 have e2 := (hb4.block _ (by omega)).trans ((hb3.block _ (by omega)).trans hx2)
 have e3 := (hb4.block _ (by omega)).trans hx3
 rw [hb, hT] at e1; rw [hb8] at e2; rw [hb9] at e3; rw [hb10] at hx4
 rw [hT] at hw1
 have hp0c := hp0
 obtain ⟨aP, cP, rfl, -⟩ := hp0c
 obtain ⟨R, hRR⟩ : ∃ R, R = solveT st p pool left := ⟨_, rfl⟩
 rw [← hRR]
 unfold solveT at hRR
 rw [hr] at hRR
 dsimp only at hRR
 have hrec := stkrecipe_any w4 B F st (h0.below hb14) p
 rw [hT] at hrec ⊢
 obtain ⟨pn, p1, p2, p3⟩ := p
 dsimp only at e1 hw1 hrec ⊢
 obtain ⟨k0, k1, k2, k3⟩ := cells4 e1
 have HRR := hdL hRR; have HREC := hdL hrec; have HR := hdL hr; have HB := hdL hb14
 have H2 := hdL e2; have H3 := hdL e3; have H4 := hdL hx4
 have HSZ := hdL (show w0.heap.size = b ∧ b8 = b + 1 ∧ b9 = b + 2 ∧ b10 = b + 3 ∧ w4.heap.size = b + 4 from by omega)
 clear hRR hrec hr hb1 hb2 hb3 hb4 hb12 hb13 hb14 hx1 hx2 hx3 hx4 e1 e2 e3 hT y1 y2 y3 y4 y5 y6 y7 y8
 have hmf : ∀ (fn : Fn) (first cap : Array Value) (w : World), (Instr.makeFunc fn first cap).run Tryz.prog w = .ok (.func fn first cap) w := fun _ _ _ _ => rfl
 go_enter_defers Tryz.func47, Tryz.ntmps47
 go_wp2_with fail
 refine HREC.out.mono ?_
 intro e w5 hrp
 obtain ⟨vs, rfl, h5, hat, b0, hb0, hown⟩ := recipeP_some HR.out hrp
 clear hrp
 obtain ⟨t0, t1, b0', r0, rfl, hl0, ht, hbd, hrn⟩ := hat
 obtain rfl : b0' = b0 := by simpa using hb0
 obtain ⟨hte, htl, htg⟩ := ht
 subst hte
 have htg' := htg
 obtain ⟨a1, c1, rfl, -⟩ := htg'
 have hbd' := hbd
 obtain ⟨a2, c2, rfl, -⟩ := hbd'
 obtain ⟨a3, c3, rfl, -⟩ := hrn
 obtain ⟨rs, -, hrs, -, -⟩ := strV_is r.pkg.1
 obtain ⟨rt, -, hrt, -, -⟩ := strV_is r.tool.1
 obtain ⟨n1, hn1⟩ : ∃ n, n = r.tool.2.length := ⟨_, rfl⟩
 obtain ⟨n2, hn2⟩ : ∃ n, n = r.build.length := ⟨_, rfl⟩
 obtain ⟨n3, hn3⟩ : ∃ n, n = r.run.length := ⟨_, rfl⟩
 obtain ⟨x, hx⟩ : ∃ x, x = r.pkg.2.1 := ⟨_, rfl⟩
 obtain ⟨y, hy⟩ : ∃ x, x = r.pkg.2.2.1 := ⟨_, rfl⟩
 obtain ⟨z, hz⟩ : ∃ x, x = r.pkg.2.2.2 := ⟨_, rfl⟩
 rw [hrs, hrt, ← hn1, ← hn2, ← hn3, ← hx, ← hy, ← hz]
 rw [← hn2] at hown
 obtain ⟨w6, hw6, hb6, hx6, y1, y2⟩ := aBk w5 #[.string rs, .int .i64 x, .int .i64 y, .int .i64 z, .string rt, .slice a1 n1 c1, .slice a2 n2 c2, .slice a3 n3 c3] 62
 obtain ⟨Bx, hBx⟩ : ∃ b, w5.heap.size = b := ⟨_, rfl⟩
 obtain ⟨w7, hw7, hb7, hx7, y3, y4⟩ := aBk w6 #[.pointer (some ⟨B, 0, none⟩), .slice aP pool.length cP, .slice a2 n2 c2, .slice none 0 0, .int .i64 left, .int .i64 0] 146
 obtain ⟨Hb, hHb⟩ : ∃ b, w6.heap.size = b := ⟨_, rfl⟩
 obtain ⟨w8, hw8, hb8', hx8, y5, y6⟩ := aBk w7 #[.pointer (some ⟨Hb, 0, none⟩)] 144
 obtain ⟨Ph, hPh⟩ : ∃ b, w7.heap.size = b := ⟨_, rfl⟩
 have hb68 := hb7.trans (hb8'.mono hb7.size)
 have hb58 := hb6.trans (hb68.mono hb6.size)
 have hb48 := h5.trans (hb58.mono h5.size)
 have hb08 := HB.out.trans (hb48.mono HB.out.size)
 rw [hBx] at hx6
 have gX := (hb68.block _ (by omega)).trans hx6
 have gH := (hb8'.block _ (by omega)).trans hx7
 rw [hHb] at gH
 rw [hPh] at hx8
 have g8 := (hb48.block _ (loh H2.out)).trans H2.out
 have g9 := (hb48.block _ (loh H3.out)).trans H3.out
 have g10 := (hb48.block _ (loh H4.out)).trans H4.out
 have hsz58 := hb58.size
 obtain ⟨xs, hs8⟩ := srAt_start (w0 := w0) hown hb58 HB.out.size gH (by have := HB.out.size; have := h5.size; omega) (by omega)
 have hft := sfits_any w8 Hb B F st _ _ _ left 0 _ Zp pool r.tool _ gH (h0.below hb08) (hp0.below hb08) (htg.below hb58)
 rw [hrt, ← hn1] at hft
 have cX4 := cOh gX 4
 have cX5 := cOh gX 5
 have cX2 := cOh hx6 6
 have cP := cOh hx8 0
 have HFT := hdL hft; have HS8 := hdL hs8; have G8 := hdL g8; have G9 := hdL g9; have G10 := hdL g10; have GP := hdL hx8; have HB8 := hdL hb08; have HN2 := hdL hn2
 have HSZ2 := hdL (show b + 4 ≤ Bx ∧ Hb = Bx + 1 ∧ Ph = Bx + 2 ∧ w8.heap.size = Bx + 3 from by have := HSZ.out; have := h5.size; omega)
 clear hft hs8 g8 g9 g10 hx8 hb08 hn2 hb0 hown htl htg hbd hl0 hb6 hb7 hb8' hb68 hb58 hb48 gX gH y1 y2 y3 y4 y5 y6 hn1 hn3 hx hy hz hrs hrt hx7 h5 k0 k1 k2 k3 hsz58
 go_wp2_with fail
 refine HFT.out.mono ?_
 rintro e w9 ⟨v', rfl, hrow, h9⟩
 have hrf := hrow
 obtain ⟨aL, cL, rfl⟩ := owns_form hrf
 have hrr := HRR.out
 obtain ⟨Ls, hLs⟩ : ∃ Ls, Ls = st.fitsP pool r.tool := ⟨_, rfl⟩
 rw [← hLs] at hrow hrr ⊢
 have g8 := (h9.block _ (loh G8.out)).trans G8.out
 have g9 := (h9.block _ (loh G9.out)).trans G9.out
 have g10 := (h9.block _ (loh G10.out)).trans G10.out
 have gp := (h9.block _ (loh GP.out)).trans GP.out
 have hs9 := HS8.out.below h9
 have hb9 := HB8.out.trans (h9.mono HB8.out.size)
 have N1 : ¬ b8 = b9 := by have := HSZ.out; omega
 have N2 : ¬ b8 = b10 := by have := HSZ.out; omega
 have N3 : ¬ b9 = b10 := by have := HSZ.out; omega
 have N4 : ¬ b9 = b8 := fun e => N1 e.symm
 have N5 : ¬ b10 = b8 := fun e => N2 e.symm
 have N6 : ¬ b10 = b9 := fun e => N3 e.symm
 have cp9 := cOh gp 0
 have HNE := hdL (And.intro N1 (And.intro N2 N3))
 have J8 := hdL g8; have J9 := hdL g9; have J10 := hdL g10; have JP := hdL gp; have HS9 := hdL hs9; have HB9 := hdL hb9; have HROW := hdL hrow
 cases Ls with
 | nil =>
  dsimp only at hrr
  have HR0 := hdL hrr
  obtain ⟨f0, f1, f2, f3, f4⟩ := cells5 g8
  have ff := foh g8
  have m0 := cOh g9 0
  have mf := foh g9
  have q0 := cOh g10 0
  have qf := foh g10
  clear g8 g9 g10 gp hs9 hb9 hrow hrf h9 hrr hLs cX4 cX5 cX2 cP
  simp only [List.length_nil]
  go_wp2_with fail
  obtain ⟨W, hW, hWc, hW8, hW9, hW10⟩ := three_set (Ch.refl [b8, b9, b10] _) J8.out J9.out J10.out HNE.out.1 HNE.out.2.1 HNE.out.2.2 (.string ⟨#[]⟩) (.int .i64 0) (.int .i64 0) (.int .i64 0) (.slice none 0 0) (.int .i64 0) (.int .i64 12)
  rw [hW]
  clear hW f0 f1 f2 f3 f4 ff m0 mf q0 qf
  refine leaves_cons (f := 84) (args := #[.pointer (some ⟨Ph, 0, none⟩), .pointer (some ⟨b8, 0, none⟩), .pointer (some ⟨b9, 0, none⟩), .pointer (some ⟨b10, 0, none⟩)]) (by simp) (by simp [go_sem]) ?_
  refine (catch_idle _ _ _ _ _).mono ?_
  rintro e u' w'' ⟨rfl, rfl, rfl⟩
  obtain ⟨r0, r1, r2, r3, r4⟩ := cells5 hW8
  have r5 := cOh hW9 0
  have r6 := cOh hW10 0
  refine ⟨.tuple #[.agg #[.string ⟨#[]⟩, .int .i64 0, .int .i64 0, .int .i64 0, .slice none 0 0], .int .i64 0, .int .i64 12], by simp [results, Tryz.results47, go_sem, r0, r1, r2, r3, r4, r5, r6], ?_⟩
  rw [HR0.out]; exact solveP_none (HB9.out.trans (boC hWc (fun k hk => by have := HSZ.out; simp at hk; omega) HB9.out.size))
 | cons t ts =>
  dsimp only at hrr
  obtain ⟨nl, hnl⟩ : ∃ nl, nl = ts.length + 1 := ⟨_, rfl⟩
  have hlen : (t :: ts).length = nl := by rw [hnl]; rfl
  rw [hlen] at HROW ⊢
  have hz : (((nl : Nat) : Int) == 0) = false := by simp; omega
  have hnl1 : 1 ≤ nl := by omega
  have hbl : r.build.length ≤ 8 := build_len h0 HR.out
  have hbt : r.build.length ≤ 8 := hbl
  by_cases hlt : left < 1
  ·rw [if_pos hlt] at hrr
   have HR0 := hdL hrr
   have HDEC := hdL (decide_no w9 Hb B _ _ _ left 0 hs9.cells (by omega) (by omega) (by omega))
   clear g8 g9 g10 gp hs9 hb9 hrow hrf h9 hrr hLs hlen cX4 cX5 cX2 cP
   go_wp2_with fail
   refine HDEC.out.mono ?_
   rintro e w10 ⟨rfl, h10⟩
   have hca : CatchAt w10 Ph Hb b8 b9 b10 B _ _ _ left 0 _ _ _ _ _ _ _ _ _ := ⟨(h10.block _ (loh JP.out)).trans JP.out, (h10.block _ (loh HS9.out.cells)).trans HS9.out.cells, (h10.block _ (loh J8.out)).trans J8.out, (h10.block _ (loh J9.out)).trans J9.out, (h10.block _ (loh J10.out)).trans J10.out⟩
   have HCA := hdL hca; have HB10 := hdL (HB9.out.trans (h10.mono HB9.out.size))
   clear hca h10
   go_wp2_with fail
   refine leaves_cons (f := 84) (args := #[.pointer (some ⟨Ph, 0, none⟩), .pointer (some ⟨b8, 0, none⟩), .pointer (some ⟨b9, 0, none⟩), .pointer (some ⟨b10, 0, none⟩)]) (by simp) (by simp [go_sem]) ?_
   refine (catch_panic _ _ _ _ _ _ _ _ _ _ _ _ _ _ _ _ _ _ _ _ _ HCA.out).mono ?_
   rintro e u' W ⟨rfl, rfl, hWc, hW8, hW9, hW10⟩
   obtain ⟨r0, r1, r2, r3, r4⟩ := cells5 hW8
   have r5 := cOh hW9 0
   have r6 := cOh hW10 0
   refine ⟨.tuple #[.agg #[.string ⟨#[]⟩, .int .i64 0, .int .i64 0, .int .i64 0, .slice none 0 0], .int .i64 0, .int .i64 60], by simp [results, Tryz.results47, go_sem, r0, r1, r2, r3, r4, r5, r6], ?_⟩
   rw [HR0.out]; exact solveP_none (HB10.out.trans (boC hWc (fun k hk => by have := HSZ.out; simp at hk; omega) HB10.out.size))
  ·rw [if_neg hlt] at hrr
   obtain ⟨ln, hln⟩ : ∃ ln : Nat, (ln : Int) = left := ⟨left.toNat, by omega⟩
   subst hln
   rw [show ((ln : Int) - 1).toNat = ln - 1 from by omega] at hrr
   obtain ⟨M, hM, hMb⟩ := meet_some (st.fitsP pool) st.runs (ln - 1) r.build []
   obtain ⟨xr, hx⟩ : ∃ xr, xr = meet (st.fitsP pool) st.runs (ln - 1) r.build [] := ⟨_, rfl⟩
   rw [← hx] at hM hMb hrr
   have HDEC := hdL (decide_yes w9 Hb B _ _ _ (ln : Int) 0 hs9.cells (by omega) (by omega) (by omega))
   have hrl : ∀ j u, (pkL t)[j]? = some u → ∃ g, aL = some ⟨g, 0, none⟩ ∧ w9.cell? ⟨g, j, none⟩ = some u ∧ w0.heap.size ≤ g ∧ ∃ cur, w9.heap[g]? = some (.cells cur 41 (0, 0)) := fun j u hj => by
    rcases HROW.out.2 with ⟨e1, e2⟩ | ⟨g, cap, cur, e1, hge, hgb, _⟩
    ·omega
    ·refine ⟨g, (Value.slice.inj e1).1, ownsC_cells (ownsC_of HROW.out) (by rw [e1]; rfl) j u ?_, Nat.le_trans HB8.out.size hge, cur, hgb⟩
     have h4 : j < 4 := by have := (gEs.1 hj).1; rwa [pkL_len] at this
     have := flat_at pkL_len (t :: ts) 0 t rfl j h4
     rw [Nat.zero_mul, Nat.zero_add] at this
     rw [this]; exact hj
   obtain ⟨gL, rfl, z0, hgl0, curL, hgL⟩ := hrl 0 _ rfl
   have z1 : w9.cell? ⟨gL, 1, none⟩ = some (.int .i64 t.2.1) := by obtain ⟨g, e1, e2, -⟩ := hrl 1 _ rfl; injection e1 with e1; injection e1 with e1; subst e1; exact e2
   have z2 : w9.cell? ⟨gL, 2, none⟩ = some (.int .i64 t.2.2.1) := by obtain ⟨g, e1, e2, -⟩ := hrl 2 _ rfl; injection e1 with e1; injection e1 with e1; subst e1; exact e2
   have z3 : w9.cell? ⟨gL, 3, none⟩ = some (.int .i64 t.2.2.2) := by obtain ⟨g, e1, e2, -⟩ := hrl 3 _ rfl; injection e1 with e1; injection e1 with e1; subst e1; exact e2
   have HGL := hdL hgL; have HZ0 := hdL z0; have HZ1 := hdL z1; have HZ2 := hdL z2; have HZ3 := hdL z3; have HMM := hdL hM; have HMB := hdL hMb; have HRX := hdL hrr; have HBL := hdL hbl
   clear g8 g9 g10 gp hs9 hb9 hrow hrf h9 hrr hLs hlen cX4 cX5 cX2 cP hrl z0 z1 z2 z3 hgL hM hMb hx
   go_wp2_with fail
   refine HDEC.out.mono ?_
   rintro e w10 ⟨rfl, hc10, hch10⟩
   have hs10 := HS9.out.count (made' := ((1 : Nat) : Int)) (by rw [show ((1 : Nat) : Int) = 0 + 1 from rfl]; exact hc10) hch10
   have keep10 : ∀ (k : Nat) (c : Array Value) (t : TypeId), t ≠ 146 → w9.heap[k]? = some (.cells c t (0, 0)) → w10.heap[k]? = some (.cells c t (0, 0)) := fun k c t ht hk => (hch10.block k (loh hk) (by rw [mSg]; intro e; subst e; exact heap_ne hk HS9.out.cells ht rfl)).trans hk
   have j8 := keep10 _ _ _ (by decide) J8.out
   have j9 := keep10 _ _ _ (by decide) J9.out
   have j10 := keep10 _ _ _ (by decide) J10.out
   have jp := keep10 _ _ _ (by decide) JP.out
   have jl := keep10 _ _ _ (by decide) HGL.out
   have hb10 := HB9.out.trans (boC hch10 (fun k hk => by rw [mSg.1 hk]; exact HS9.out.hb) HB9.out.size)
   have hfrom := from_any w0 B F st h0 _ Zp pool hp0 Hb ln (by omega) M w10 r.build [] 1 _ _ xs 0 xr hb10 hs10 (by omega) (Nat.zero_le _) (by have := HBL.out; omega) (by simp; omega) (fun q hq => by cases hq) (by simpa using HMM.out)
   have c10 := cOh jp 0
   have HFR := hdL hfrom; have K8 := hdL j8; have K9 := hdL j9; have K10 := hdL j10; have KP0 := hdL jp; have KL := hdL jl; have HB10 := hdL hb10; have HS10 := hdL hs10; have HZL := hdL (show gL < w10.heap.size from loh jl)
   have HCL := hdL (fun (j : Nat) (u : Value) (h : w9.cell? ⟨gL, j, none⟩ = some u) => show w10.cell? ⟨gL, j, none⟩ = some u from (World.cell?_of_block (a := ⟨gL, j, none⟩) (jl.trans HGL.out.symm)).trans h)
   clear hc10 hch10 hs10 keep10 j8 j9 j10 jp jl hb10 hfrom cp9
   go_wp2_with fail
   refine HFR.out.mono ?_
   intro e w11 hfr
   obtain ⟨res, bb⟩ := xr
   have keep11 : ∀ (k : Nat) (c : Array Value) (t : TypeId), t ≠ 146 → t ≠ 59 → w10.heap[k]? = some (.cells c t (0, 0)) → w11.heap[k]? = some (.cells c t (0, 0)) := fun k c t h1 h2 hk => (hfr.1.block k (loh hk) (fun hm => by
    rcases mem_srF.1 hm with e | e | e
    ·subst e; exact heap_ne hk HS10.out.cells h1 rfl
    ·obtain ⟨_, cur, hc⟩ := oCk HS10.out.wown e; exact heap_ne hk hc h2 rfl
    ·cases e)).trans hk
   have j8 := keep11 _ _ _ (by decide) (by decide) K8.out
   have j9 := keep11 _ _ _ (by decide) (by decide) K9.out
   have j10 := keep11 _ _ _ (by decide) (by decide) K10.out
   have jp := keep11 _ _ _ (by decide) (by decide) KP0.out
   have jl := keep11 _ _ _ (by decide) (by decide) KL.out
   have hb11 := HB10.out.trans (boC hfr.1 HS10.out.base_le HB10.out.size)
   have hcl : ∀ (j : Nat) (u : Value), w9.cell? ⟨gL, j, none⟩ = some u → w11.cell? ⟨gL, j, none⟩ = some u := fun j u h => (World.cell?_of_block (a := ⟨gL, j, none⟩) (jl.trans KL.out.symm)).trans (HCL.out j u h)
   have L8 := hdL j8; have L9 := hdL j9; have L10 := hdL j10; have LP := hdL jp; have LL := hdL jl; have HB11 := hdL hb11; have HCL11 := hdL hcl
   have c10 := cOh jp 0
   clear keep11 hb11 hcl
   cases res with
   | budget =>
    obtain ⟨-, rfl, vW', vC', hh⟩ := hfr
    have hrr := HRX.out
    dsimp only at hrr
    have HR0 := hdL hrr
    have hca : CatchAt w11 Ph Hb b8 b9 b10 B _ _ _ _ _ _ _ _ _ _ _ _ _ _ := ⟨jp, hh, j8, j9, j10⟩
    have HCA := hdL hca
    clear hca hh j8 j9 j10 jp jl hrr c10
    go_wp2_with fail
    refine leaves_cons (f := 84) (args := #[.pointer (some ⟨Ph, 0, none⟩), .pointer (some ⟨b8, 0, none⟩), .pointer (some ⟨b9, 0, none⟩), .pointer (some ⟨b10, 0, none⟩)]) (by simp) (by simp [go_sem]) ?_
    refine (catch_panic _ _ _ _ _ _ _ _ _ _ _ _ _ _ _ _ _ _ _ _ _ HCA.out).mono ?_
    rintro e u' W ⟨rfl, rfl, hWc, hW8, hW9, hW10⟩
    obtain ⟨r0, r1, r2, r3, r4⟩ := cells5 hW8
    have r5 := cOh hW9 0
    have r6 := cOh hW10 0
    refine ⟨.tuple #[.agg #[.string ⟨#[]⟩, .int .i64 0, .int .i64 0, .int .i64 0, .slice none 0 0], .int .i64 ((ln : Int) - bb), .int .i64 60], by simp [results, Tryz.results47, go_sem, r0, r1, r2, r3, r4, r5, r6], ?_⟩
    rw [HR0.out]; exact solveP_none (HB11.out.trans (boC hWc (fun k hk => by have := HSZ.out; simp at hk; omega) HB11.out.size))
   | clash =>
    obtain ⟨-, rfl, vW', vC', xs', hh, -, -⟩ := hfr
    have hrr := HRX.out
    dsimp only at hrr
    have HR0 := hdL hrr
    have HHC := hdL hh.cells
    clear hh j8 j9 j10 jp jl hrr
    go_upto_region 13 with fail
    refine wp_noP ?_
    refine UpV.start [(6, fun W : World => W.cell? ⟨Ph, 0, none⟩ = some (.pointer (some ⟨Hb, 0, none⟩)) ∧ W.cell? ⟨Hb, 5, none⟩ = some (.int .i64 ((ln : Int) - bb)))] (by kernel_rfl) ?_
    obtain ⟨Wd, hWd⟩ : ∃ W, W = w11.drew := ⟨_, rfl⟩
    rw [← hWd]
    have eh : w11.heap = Wd.heap := by rw [hWd]; rfl
    have d8 := L8.out; have d9 := L9.out; have d10 := L10.out; have dP := LP.out; have dH := HHC.out
    rw [eh] at d8 d9 d10 dP dH
    clear eh
    have hbd : Below w0.heap.size w0 Wd := by rw [hWd]; exact HB11.out.drew
    clear hWd c10
    have hA0 : ∀ q ∈ ([(6, fun W : World => W.cell? ⟨Ph, 0, none⟩ = some (.pointer (some ⟨Hb, 0, none⟩)) ∧ W.cell? ⟨Hb, 5, none⟩ = some (.int .i64 ((ln : Int) - bb)))] : List (Nat × (World → Prop))), q.2 Wd := by
     intro q hq
     obtain rfl := mSg.1 hq
     exact ⟨cOh dP 0, cOh dH 5⟩
    refine UpV.tp 0 (v := .agg #[.string ⟨#[]⟩, .int .i64 0, .int .i64 0, .int .i64 0, .slice none 0 0]) rfl (Or.inl ⟨by rfl, ?_⟩) (owe_all hA0) ?_
    ·intro w hSw; first | rfl | (go_simp; done)
    try simp only [Act.put, sqZ]
    refine UpV.tk 1 6 (v := .pointer (some ⟨Hb, 0, none⟩)) rfl (mCs ..) (Or.inl ⟨by rfl, ?_⟩) (owe_all hA0) ?_
    ·intro w hSw; obtain ⟨s0, s1⟩ := hSw; go_simp
    try simp only [Act.put, sqZ]
    refine UpV.tp 2 (v := .pointer (some ⟨Hb, 0, none⟩)) rfl (Or.inl ⟨by rfl, ?_⟩) (owe_all hA0) ?_
    ·intro w hSw; first | rfl | (go_simp; done)
    try simp only [Act.put, sqZ]
    refine UpV.tp 3 (v := .pointer (some ⟨Hb, 5, none⟩)) rfl (Or.inl ⟨by rfl, ?_⟩) (owe_all hA0) ?_
    ·intro w hSw; first | rfl | (go_simp; done)
    try simp only [Act.put, sqZ]
    refine UpV.tk 4 6 (v := .int .i64 ((ln : Int) - bb)) rfl (mCs ..) (Or.inl ⟨by rfl, ?_⟩) (owe_all hA0) ?_
    ·intro w hSw; obtain ⟨s0, s1⟩ := hSw; go_simp
    try simp only [Act.put, sqZ]
    obtain ⟨f0, f1, f2, f3, f4⟩ := cells5 d8
    have ff := foh d8
    refine UpV.one 5 (by kernel_rfl) rfl ?_
    intro K hK
    try simp only [sqG]
    try go_simp
    obtain ⟨W5, hW5, h85, hch5⟩ := five_set d8 (.string ⟨#[]⟩) (.int .i64 0) (.int .i64 0) (.int .i64 0) (.slice none 0 0)
    rw [hW5]
    clear hW5 f0 f1 f2 f3 f4 ff
    have g9 := (hch5.block b9 (loh d9) (by rw [mSg]; exact fun e => HNE.out.1 e.symm)).trans d9
    have g10 := (hch5.block b10 (loh d10) (by rw [mSg]; exact fun e => HNE.out.2.1 e.symm)).trans d10
    have gP := (hch5.block Ph (loh dP) (by rw [mSg]; exact heap_ne dP d8 (by decide))).trans dP
    have gH := (hch5.block Hb (loh dH) (by rw [mSg]; exact heap_ne dH d8 (by decide))).trans dH
    refine hK.out _ _ (owe1 (fun _ => ⟨cOh gP 0, cOh gH 5⟩)) ?_
    clear hK K
    try simp only [Act.put, sqZ]
    have m0 := cOh g9 0
    have mf := foh g9
    refine UpV.one 6 (by kernel_rfl) rfl ?_
    intro K hK
    try simp only [sqG]
    try go_simp
    obtain ⟨W6, hW6, h96, hch6⟩ := one_set g9 (.int .i64 ((ln : Int) - bb))
    rw [hW6]
    clear hW6 m0 mf
    have k8 := (hch6.block b8 (loh h85) (by rw [mSg]; exact HNE.out.1)).trans h85
    have k10 := (hch6.block b10 (loh g10) (by rw [mSg]; exact fun e => HNE.out.2.2 e.symm)).trans g10
    refine hK.out _ _ (owe1 (fun h => by cases h)) ?_
    clear hK K
    try simp only [Act.put, sqZ]
    have q0 := cOh k10 0
    have qf := foh k10
    refine UpV.one 7 (by kernel_rfl) rfl ?_
    intro K hK
    try simp only [sqG]
    try go_simp
    obtain ⟨W7, hW7, hW10, hch7⟩ := one_set k10 (.int .i64 12)
    rw [hW7]
    clear hW7 q0 qf
    have hW8 := (hch7.block b8 (loh k8) (by rw [mSg]; exact HNE.out.2.1)).trans k8
    have hW9 := (hch7.block b9 (loh h96) (by rw [mSg]; exact HNE.out.2.2)).trans h96
    refine hK.out _ _ (owe1 (fun h => by cases h)) ?_
    clear hK K
    try simp only [Act.put, sqZ]
    have hch : Ch [b8, b9, b10] Wd W7 := (((Ch.refl [b8, b9, b10] Wd).trans hch5 (fun x hx => .inl (by rw [mSg.1 hx]; simp))).trans hch6 (fun x hx => .inl (by rw [mSg.1 hx]; simp))).trans hch7 (fun x hx => .inl (by rw [mSg.1 hx]; simp))
    have hbW := (hbd.trans (boC hch (fun k hk => by have := HSZ.out; simp at hk; omega) hbd.size))
    have HBW := hdL hbW; have HCH := hdL hch; have X8 := hdL hW8; have X9 := hdL hW9; have X10 := hdL hW10
    clear d8 d9 d10 dP dH hbd hA0 h85 hch5 g9 g10 gP gH h96 hch6 k8 k10 hch7 hch hbW hW8 hW9 hW10
    refine UpV.done (by kernel_rfl) ?_
    refine NoP.go ?_
    go_wp2_with fail
    refine leaves_cons (f := 84) (args := #[.pointer (some ⟨Ph, 0, none⟩), .pointer (some ⟨b8, 0, none⟩), .pointer (some ⟨b9, 0, none⟩), .pointer (some ⟨b10, 0, none⟩)]) (by simp) (by simp [go_sem]) ?_
    refine (catch_idle _ _ _ _ _).mono ?_
    rintro e u' w'' ⟨rfl, rfl, rfl⟩
    have hW8 := X8.out; have hW9 := X9.out; have hW10 := X10.out
    obtain ⟨r0, r1, r2, r3, r4⟩ := cells5 hW8
    have r5 := cOh hW9 0
    have r6 := cOh hW10 0
    refine ⟨.tuple #[.agg #[.string ⟨#[]⟩, .int .i64 0, .int .i64 0, .int .i64 0, .slice none 0 0], .int .i64 ((ln : Int) - bb), .int .i64 12], by simp [results, Tryz.results47, go_sem, r0, r1, r2, r3, r4, r5, r6], ?_⟩
    rw [HR0.out]; exact solveP_none HBW.out
   | ok c =>
    obtain ⟨-, rfl, vW', vC', hh, hown, hnew⟩ := hfr
    have hrr := HRX.out
    dsimp only at hrr
    have HR0 := hdL hrr
    have hcl : c.length ≤ 30000 := by have := (meetF_inv (I := fun _ _ => True) (fun _ _ _ _ _ _ _ => trivial) (fun _ _ _ _ _ _ _ => trivial) _ _ _ _ _ _ HMM.out trivial).2.1; simp only [List.length_nil] at this; omega
    have hso := ssort_any w11 w0.heap.size vC' c hown hcl (meet_names (fun d => fits_name) HMM.out)
    have hnL : ¬ some gL = vC'.ownBlock := fun e => by
     rcases hnew with h | ⟨g, h, hg⟩
     ·rw [h] at e; cases e
     ·rw [h] at e; have := sIj e; have := HZL.out; omega
    obtain ⟨aC, cC, hvC, -⟩ := ownsC_form hown
    obtain ⟨nc, hnc⟩ : ∃ n, n = c.length := ⟨_, rfl⟩
    rw [← hnc] at hvC
    subst hvC
    have hm3 := cOh hh 3
    unfold srC at hm3
    have HHC := hdL hh; have HSO := hdL hso; have HNL := hdL hnL; have HOW := hdL hown; have HNC := hdL hnc
    clear hh j8 j9 j10 jp jl hrr hso hnL hown hnew hcl hnc
    go_wp2_with fail
    refine HSO.out.mono ?_
    rintro e w12 ⟨rfl, hos, hgr⟩
    have kp : KP 41 w11 w12 := KP.grown hgr HOW.out
    have j8 := kp _ _ _ _ (by decide) L8.out
    have j9 := kp _ _ _ _ (by decide) L9.out
    have j10 := kp _ _ _ _ (by decide) L10.out
    have jp := kp _ _ _ _ (by decide) LP.out
    have jh := kp _ _ _ _ (by decide) HHC.out
    have jl : ∀ (j : Nat) (u : Value), w9.cell? ⟨gL, j, none⟩ = some u → w12.cell? ⟨gL, j, none⟩ = some u := fun j u h => (World.cell?_of_block (a := ⟨gL, j, none⟩) (hgr.block gL (loh LL.out) HNL.out)).trans (HCL11.out j u h)
    obtain ⟨sT, -, hsT, -, -⟩ := strV_is t.1
    have z0 := jl 0 _ HZ0.out
    have z1 := jl 1 _ HZ1.out
    have z2 := jl 2 _ HZ2.out
    have z3 := jl 3 _ HZ3.out
    rw [hsT] at z0
    obtain ⟨tx, htx⟩ : ∃ x, x = t.2.1 := ⟨_, rfl⟩
    obtain ⟨ty, hty⟩ : ∃ x, x = t.2.2.1 := ⟨_, rfl⟩
    obtain ⟨tz, htz⟩ : ∃ x, x = t.2.2.2 := ⟨_, rfl⟩
    rw [← htx] at z1
    rw [← hty] at z2
    rw [← htz] at z3
    have hb12 : Below w0.heap.size w0 w12 := below_grownS HB11.out hgr (fun g hg => (oCk HOW.out hg).1)
    have HST := hdL (show strV t.1 = .string sT ∧ tx = t.2.1 ∧ ty = t.2.2.1 ∧ tz = t.2.2.2 from ⟨hsT, htx, hty, htz⟩)
    have M8 := hdL j8; have M9 := hdL j9; have M10 := hdL j10; have MP := hdL jp; have MH := hdL jh; have MB := hdL hb12; have MO := hdL hos; have Z0 := hdL z0; have Z1 := hdL z1; have Z2 := hdL z2; have Z3 := hdL z3
    clear kp j8 j9 j10 jp jh jl z0 z1 z2 z3 hb12 hos hgr hsT htx hty htz c10 hm3
    go_upto_region 15 with fail
    refine wp_noP ?_
    refine UpV.start [(12, fun W : World => W.cell? ⟨gL, 0, none⟩ = some (.string sT) ∧ W.cell? ⟨gL, 1, none⟩ = some (.int .i64 tx) ∧ W.cell? ⟨gL, 2, none⟩ = some (.int .i64 ty) ∧ W.cell? ⟨gL, 3, none⟩ = some (.int .i64 tz) ∧ W.cell? ⟨Ph, 0, none⟩ = some (.pointer (some ⟨Hb, 0, none⟩)) ∧ W.cell? ⟨Hb, 3, none⟩ = some (.slice aC nc cC)), (13, fun W : World => W.cell? ⟨Ph, 0, none⟩ = some (.pointer (some ⟨Hb, 0, none⟩)) ∧ W.cell? ⟨Hb, 5, none⟩ = some (.int .i64 ((ln : Int) - bb)))] (by kernel_rfl) ?_
    obtain ⟨Wd, hWd⟩ : ∃ W, W = w12.drew := ⟨_, rfl⟩
    rw [← hWd]
    have eh : w12.heap = Wd.heap := by rw [hWd]; rfl
    have d8 := M8.out; have d9 := M9.out; have d10 := M10.out; have dP := MP.out; have dH := MH.out
    rw [eh] at d8 d9 d10 dP dH
    clear eh
    have hbd : Below w0.heap.size w0 Wd := by rw [hWd]; exact MB.out.drew
    have hod : ownsC Wd w0.heap.size 41 4 (.slice aC nc cC) c.length ((sortP c).flatMap pkL) := by rw [hWd]; exact MO.out
    have dz0 : Wd.cell? ⟨gL, 0, none⟩ = some (.string sT) := by rw [hWd]; exact Z0.out
    have dz1 : Wd.cell? ⟨gL, 1, none⟩ = some (.int .i64 tx) := by rw [hWd]; exact Z1.out
    have dz2 : Wd.cell? ⟨gL, 2, none⟩ = some (.int .i64 ty) := by rw [hWd]; exact Z2.out
    have dz3 : Wd.cell? ⟨gL, 3, none⟩ = some (.int .i64 tz) := by rw [hWd]; exact Z3.out
    clear hWd
    have hA0 : ∀ q ∈ ([(12, fun W : World => W.cell? ⟨gL, 0, none⟩ = some (.string sT) ∧ W.cell? ⟨gL, 1, none⟩ = some (.int .i64 tx) ∧ W.cell? ⟨gL, 2, none⟩ = some (.int .i64 ty) ∧ W.cell? ⟨gL, 3, none⟩ = some (.int .i64 tz) ∧ W.cell? ⟨Ph, 0, none⟩ = some (.pointer (some ⟨Hb, 0, none⟩)) ∧ W.cell? ⟨Hb, 3, none⟩ = some (.slice aC nc cC)), (13, fun W : World => W.cell? ⟨Ph, 0, none⟩ = some (.pointer (some ⟨Hb, 0, none⟩)) ∧ W.cell? ⟨Hb, 5, none⟩ = some (.int .i64 ((ln : Int) - bb)))] : List (Nat × (World → Prop))), q.2 Wd := by
     intro q hq
     rcases List.mem_cons.1 hq with rfl | hq
     ·exact ⟨dz0, dz1, dz2, dz3, cOh dP 0, cOh dH 3⟩
     obtain rfl := mSg.1 hq
     exact ⟨cOh dP 0, cOh dH 5⟩
    refine UpV.tp 0 (v := .slice (some ⟨gL, 0, none⟩) (ts.length + 1) cL) rfl (Or.inl ⟨by rfl, ?_⟩) (owe_all hA0) ?_
    ·intro w hSw; first | rfl | (go_simp; done)
    try simp only [Act.put, sqZ]
    refine UpV.tp 1 (v := .pointer (some ⟨gL, 0, none⟩)) rfl (Or.inl ⟨by rfl, ?_⟩) (owe_all hA0) ?_
    ·intro w hSw; first | rfl | (go_simp; done)
    try simp only [Act.put, sqZ]
    refine UpV.tk 2 12 (v := .agg #[.string sT, .int .i64 tx, .int .i64 ty, .int .i64 tz]) rfl (mCs ..) (Or.inl ⟨by rfl, ?_⟩) (owe_all hA0) ?_
    ·intro w hSw; obtain ⟨s0, s1, s2, s3, s4, s5⟩ := hSw; go_simp
    try simp only [Act.put, sqZ]
    refine UpV.tk 3 12 (v := .pointer (some ⟨Hb, 0, none⟩)) rfl (mCs ..) (Or.inl ⟨by rfl, ?_⟩) (owe_all hA0) ?_
    ·intro w hSw; obtain ⟨s0, s1, s2, s3, s4, s5⟩ := hSw; go_simp
    try simp only [Act.put, sqZ]
    refine UpV.tp 4 (v := .pointer (some ⟨Hb, 0, none⟩)) rfl (Or.inl ⟨by rfl, ?_⟩) (owe_all hA0) ?_
    ·intro w hSw; first | rfl | (go_simp; done)
    try simp only [Act.put, sqZ]
    refine UpV.tp 5 (v := .pointer (some ⟨Hb, 3, none⟩)) rfl (Or.inl ⟨by rfl, ?_⟩) (owe_all hA0) ?_
    ·intro w hSw; first | rfl | (go_simp; done)
    try simp only [Act.put, sqZ]
    refine UpV.tk 6 12 (v := .slice aC nc cC) rfl (mCs ..) (Or.inl ⟨by rfl, ?_⟩) (owe_all hA0) ?_
    ·intro w hSw; obtain ⟨s0, s1, s2, s3, s4, s5⟩ := hSw; go_simp
    try simp only [Act.put, sqZ]
    refine UpV.tp 7 (v := .agg #[.string sT, .int .i64 tx, .int .i64 ty, .int .i64 tz, .slice aC nc cC]) rfl (Or.inl ⟨by rfl, ?_⟩) (owe_all hA0) ?_
    ·intro w hSw; first | rfl | (go_simp; done)
    try simp only [Act.put, sqZ]
    refine UpV.tk 8 13 (v := .pointer (some ⟨Hb, 0, none⟩)) rfl (mCm _ (mCs ..)) (Or.inl ⟨by rfl, ?_⟩) (owe_all hA0) ?_
    ·intro w hSw; obtain ⟨s0, s1⟩ := hSw; go_simp
    try simp only [Act.put, sqZ]
    refine UpV.tp 9 (v := .pointer (some ⟨Hb, 0, none⟩)) rfl (Or.inl ⟨by rfl, ?_⟩) (owe_all hA0) ?_
    ·intro w hSw; first | rfl | (go_simp; done)
    try simp only [Act.put, sqZ]
    refine UpV.tp 10 (v := .pointer (some ⟨Hb, 5, none⟩)) rfl (Or.inl ⟨by rfl, ?_⟩) (owe_all hA0) ?_
    ·intro w hSw; first | rfl | (go_simp; done)
    try simp only [Act.put, sqZ]
    refine UpV.tk 11 13 (v := .int .i64 ((ln : Int) - bb)) rfl (mCm _ (mCs ..)) (Or.inl ⟨by rfl, ?_⟩) (owe_all hA0) ?_
    ·intro w hSw; obtain ⟨s0, s1⟩ := hSw; go_simp
    try simp only [Act.put, sqZ]
    clear dz0 dz1 dz2 dz3
    obtain ⟨f0, f1, f2, f3, f4⟩ := cells5 d8
    have ff := foh d8
    refine UpV.one 12 (by kernel_rfl) rfl ?_
    intro K hK
    try simp only [sqG]
    try go_simp
    obtain ⟨W5, hW5, h85, hch5⟩ := five_set d8 (.string sT) (.int .i64 tx) (.int .i64 ty) (.int .i64 tz) (.slice aC nc cC)
    rw [hW5]
    clear hW5 f0 f1 f2 f3 f4 ff
    have g9 := (hch5.block b9 (loh d9) (by rw [mSg]; exact fun e => HNE.out.1 e.symm)).trans d9
    have g10 := (hch5.block b10 (loh d10) (by rw [mSg]; exact fun e => HNE.out.2.1 e.symm)).trans d10
    have gP := (hch5.block Ph (loh dP) (by rw [mSg]; exact heap_ne dP d8 (by decide))).trans dP
    have gH := (hch5.block Hb (loh dH) (by rw [mSg]; exact heap_ne dH d8 (by decide))).trans dH
    refine hK.out _ _ (owe2 (fun h => by cases h) (fun _ => ⟨cOh gP 0, cOh gH 5⟩)) ?_
    clear hK K
    try simp only [Act.put, sqZ]
    have m0 := cOh g9 0
    have mf := foh g9
    refine UpV.one 13 (by kernel_rfl) rfl ?_
    intro K hK
    try simp only [sqG]
    try go_simp
    obtain ⟨W6, hW6, h96, hch6⟩ := one_set g9 (.int .i64 ((ln : Int) - bb))
    rw [hW6]
    clear hW6 m0 mf
    have k8 := (hch6.block b8 (loh h85) (by rw [mSg]; exact HNE.out.1)).trans h85
    have k10 := (hch6.block b10 (loh g10) (by rw [mSg]; exact fun e => HNE.out.2.2 e.symm)).trans g10
    refine hK.out _ _ (owe2 (fun h => by cases h) (fun h => by cases h)) ?_
    clear hK K
    try simp only [Act.put, sqZ]
    have q0 := cOh k10 0
    have qf := foh k10
    refine UpV.one 14 (by kernel_rfl) rfl ?_
    intro K hK
    try simp only [sqG]
    try go_simp
    obtain ⟨W7, hW7, hW10, hch7⟩ := one_set k10 (.int .i64 0)
    rw [hW7]
    clear hW7 q0 qf
    have hW8 := (hch7.block b8 (loh k8) (by rw [mSg]; exact HNE.out.2.1)).trans k8
    have hW9 := (hch7.block b9 (loh h96) (by rw [mSg]; exact HNE.out.2.2)).trans h96
    refine hK.out _ _ (owe2 (fun h => by cases h) (fun h => by cases h)) ?_
    clear hK K
    try simp only [Act.put, sqZ]
    have hch : Ch [b8, b9, b10] Wd W7 := (((Ch.refl [b8, b9, b10] Wd).trans hch5 (fun x hx => .inl (by rw [mSg.1 hx]; simp))).trans hch6 (fun x hx => .inl (by rw [mSg.1 hx]; simp))).trans hch7 (fun x hx => .inl (by rw [mSg.1 hx]; simp))
    have hbW := (hbd.trans (boC hch (fun k hk => by have := HSZ.out; simp at hk; omega) hbd.size))
    have HBW := hdL hbW; have HCH := hdL hch; have X8 := hdL hW8; have X9 := hdL hW9; have X10 := hdL hW10
    have ho7 := ownsC_keep (w' := W7) hod (fun g hg => by
     obtain ⟨_, cur, hc⟩ := oCk hod hg
     refine hch.block g (loh hc) (fun hm => ?_)
     simp only [List.mem_cons, List.not_mem_nil, or_false] at hm
     rcases hm with rfl | rfl | rfl
     ·exact heap_ne hc d8 (by decide) rfl
     ·exact heap_ne hc d9 (by decide) rfl
     ·exact heap_ne hc d10 (by decide) rfl)
    have HO7 := hdL ho7
    clear d8 d9 d10 dP dH hbd hod hA0 h85 hch5 g9 g10 gP gH h96 hch6 k8 k10 hch7 hch hbW hW8 hW9 hW10 ho7
    refine UpV.done (by kernel_rfl) ?_
    refine NoP.go ?_
    go_wp2_with fail
    refine leaves_cons (f := 84) (args := #[.pointer (some ⟨Ph, 0, none⟩), .pointer (some ⟨b8, 0, none⟩), .pointer (some ⟨b9, 0, none⟩), .pointer (some ⟨b10, 0, none⟩)]) (by simp) (by simp [go_sem]) ?_
    refine (catch_idle _ _ _ _ _).mono ?_
    rintro e u' w'' ⟨rfl, rfl, rfl⟩
    have hW8 := X8.out; have hW9 := X9.out; have hW10 := X10.out
    obtain ⟨r0, r1, r2, r3, r4⟩ := cells5 hW8
    have r5 := cOh hW9 0
    have r6 := cOh hW10 0
    refine ⟨.tuple #[.agg #[.string sT, .int .i64 tx, .int .i64 ty, .int .i64 tz, .slice aC nc cC], .int .i64 ((ln : Int) - bb), .int .i64 0], by simp [results, Tryz.results47, go_sem, r0, r1, r2, r3, r4, r5, r6], ?_⟩
    rw [HR0.out]; exact solveP_some HST.out HNC.out HO7.out HBW.out
end Go.Proofs.YtaagkndhgicifaaGreat
