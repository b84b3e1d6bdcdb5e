/- DERIVED. Texts of this claim, put together: SolH, SolL, Fam, SolAl, SolCm. -/
import Derived.Test.YtnbeklmjinnbaaaSolG
import Derived.BigQuiet
import Derived.Test.YtnbeklmjinnbaaaSv01
import Derived.Deep.QuietTactic
/- DERIVED. Solve: whatever the package; of no stock. -/
namespace Go.Proofs.Ytnbeklmjinnbaaa
open Go.RowKit Go.Shelf
set_option linter.unusedVariables false
set_option linter.unusedSimpArgs false
set_option maxRecDepth 100000

theorem solve_any (w0 : World) (B : Nat) (F : List Nat) (st : St) (h0 : StkAt w0 B F st) (p : Pk) (vp : Value) (Zp : Zone) (pool : List Pk) (hp0 : PkgsAt Zp w0 vp pool) (left : Int) (hl : left ≤ 2000) :
    Calls Try.prog 10 #[.pointer (some ⟨B, 0, none⟩), .agg #[strV p.1, .int .i64 p.2.1, .int .i64 p.2.2.1, .int .i64 p.2.2.2], vp, .int .i64 left] w0 (SolveP w0 (solveT st p pool left)) := by
  cases hr : st.rec? p with
  | none =>
    have := solve_none w0 B F st h0 p vp left hr
    have e : solveT st p pool left = (ch0, 0, 14) := by unfold solveT; rw [hr]
    rw [e]
    exact this
  | some r => exact solve_some w0 B F st h0 p vp Zp pool hp0 left hl r hr
set_option maxHeartbeats 8000000 in
theorem solve_nil (w0 : World) (p : Pk) (vp : Value) (left : Int) :
    Calls Try.prog 10 #[.pointer none, .agg #[strV p.1, .int .i64 p.2.1, .int .i64 p.2.2.1, .int .i64 p.2.2.2], vp, .int .i64 left] w0 (SolveP w0 (ch0, 0, 2)) := by
  obtain ⟨T, -, hT, -, -⟩ := strV_is p.1
  obtain ⟨w1, hw1, hb1, hx1, y1, y2⟩ := any_block w0 #[strV p.1, .int .i64 p.2.1, .int .i64 p.2.2.1, .int .i64 p.2.2.2] 28
  obtain ⟨w2, hw2, hb2, hx2, y3, y4⟩ := any_block w1 #[.string ⟨#[]⟩, .int .i64 0, .int .i64 0, .int .i64 0, .slice none 0 0] 42
  obtain ⟨w3, hw3, hb3, hx3, y5, y6⟩ := any_block w2 #[.int .i64 0] 3
  obtain ⟨w4, hw4, hb4, hx4, y7, y8⟩ := any_block w3 #[.int .i64 0] 31
  obtain ⟨b, hb⟩ : ∃ b, w0.heap.size = b := ⟨_, rfl⟩
  obtain ⟨b8, hb8⟩ : ∃ b, w1.heap.size = b := ⟨_, rfl⟩
  obtain ⟨b9, hb9⟩ : ∃ b, w2.heap.size = b := ⟨_, rfl⟩
  obtain ⟨b10, hb10⟩ : ∃ b, w3.heap.size = b := ⟨_, rfl⟩
  have hb12 := hb1.trans (hb2.mono hb1.size)
  have hb13 := hb12.trans (hb3.mono hb12.size)
  have hb14 := hb13.trans (hb4.mono hb13.size)
  have e2 := (hb4.block _ (by omega)).trans ((hb3.block _ (by omega)).trans hx2)
  have e3 := (hb4.block _ (by omega)).trans hx3
  rw [hb8] at e2; rw [hb9] at e3; rw [hb10] at hx4
  rw [hT] at hw1
  rw [hT]
  obtain ⟨pn, p1, p2, p3⟩ := p
  dsimp only at hw1 ⊢
  have n1 : ¬ b8 = b9 := by omega
  have n2 : ¬ b8 = b10 := by omega
  have n3 : ¬ b9 = b10 := by omega
  have n4 : ¬ b9 = b8 := fun e => n1 e.symm
  have n5 : ¬ b10 = b8 := fun e => n2 e.symm
  have n6 : ¬ b10 = b9 := fun e => n3 e.symm
  have f0 := cell_of_heap e2 0
  have f1 := cell_of_heap e2 1
  have f2 := cell_of_heap e2 2
  have f3 := cell_of_heap e2 3
  have f4 := cell_of_heap e2 4
  have ff := frozen_of_heap e2
  have m0 := cell_of_heap e3 0
  have mf := frozen_of_heap e3
  have q0 := cell_of_heap hx4 0
  have qf := frozen_of_heap hx4
  have HB := Lib.hid hb14
  have H2 := Lib.hid e2; have H3 := Lib.hid e3; have H4 := Lib.hid hx4
  have HSZ := Lib.hid (show w0.heap.size = b ∧ b8 = b + 1 ∧ b9 = b + 2 ∧ b10 = b + 3 ∧ w4.heap.size = b + 4 from by omega)
  have HN := Lib.hid (And.intro n1 (And.intro n2 n3))
  clear hb1 hb2 hb3 hb4 hb12 hb13 hb14 hx1 hx2 hx3 hx4 e2 e3 hT y1 y2 y3 y4 y5 y6 y7 y8
  go_enter_defers Try.func10, Try.ntmps10
  go_wp2_with fail
  obtain ⟨W, hW, hWc, hW8, hW9, hW10⟩ := three_set (Ch.refl [b8, b9, b10] _) H2.out H3.out H4.out HN.out.1 HN.out.2.1 HN.out.2.2 (.string ⟨#[]⟩) (.int .i64 0) (.int .i64 0) (.int .i64 0) (.slice none 0 0) (.int .i64 0) (.int .i64 2)
  rw [hW]
  clear hW f0 f1 f2 f3 f4 ff m0 mf q0 qf
  have r0 := cell_of_heap hW8 0
  have r1 := cell_of_heap hW8 1
  have r2 := cell_of_heap hW8 2
  have r3 := cell_of_heap hW8 3
  have r4 := cell_of_heap hW8 4
  have r5 := cell_of_heap hW9 0
  have r6 := cell_of_heap hW10 0
  refine ⟨.tuple #[.agg #[.string ⟨#[]⟩, .int .i64 0, .int .i64 0, .int .i64 0, .slice none 0 0], .int .i64 0, .int .i64 2], by simp [results, Try.results10, go_sem, r0, r1, r2, r3, r4, r5, r6], ?_⟩
  exact solveP_none (HB.out.trans (below_of_ch hWc (fun k hk => by have := HSZ.out; simp at hk; omega) HB.out.size))
end Go.Proofs.Ytnbeklmjinnbaaa

/- DERIVED. The law's own packages and inputs. -/
namespace Go.Proofs.Ytnbeklmjinnbaaa
open Go.RowKit Go.Shelf
set_option linter.unusedVariables false
set_option linter.unusedSimpArgs false
set_option maxRecDepth 100000

theorem pkg_any (w : World) (T : ByteArray) (k : Int) : Calls Try.prog 6 #[.string T, .int .i64 k] w (fun e w' => e = .returned (.agg #[.string T, .int .i64 k, .int .i64 0, .int .i64 0]) ∧ Below w.heap.size w w') := by
  obtain ⟨b, hb⟩ : ∃ b, w.heap.size = b := ⟨_, rfl⟩
  go_enter Try.func6, Try.ntmps6
  go_wp2_with fail
  obtain ⟨w1, hw1, hb1, hx1, y1, y2⟩ := any_block w #[.string T, .int .i64 k, .int .i64 0, .int .i64 0] 28
  rw [hw1]
  rw [hb] at hx1
  have r0 := cell_of_heap hx1 0
  have r1 := cell_of_heap hx1 1
  have r2 := cell_of_heap hx1 2
  have r3 := cell_of_heap hx1 3
  refine bodyPost_ret (v := .agg #[.string T, .int .i64 k, .int .i64 0, .int .i64 0]) (by simp [results, Try.results6, go_sem, r0, r1, r2, r3]) rfl ?_
  exact ⟨rfl, hb1⟩
theorem dep_any (w : World) (T : ByteArray) (lo hi : Int) (h1 : 0 ≤ lo ∧ lo ≤ 1000) (h2 : 0 ≤ hi ∧ hi ≤ 1000) : Calls Try.prog 8 #[.string T, .int .i64 lo, .int .i64 hi] w (fun e w' => ∃ g, e = .returned (.agg #[.string T, .slice (some ⟨g, 0, none⟩) 1 1]) ∧ w.heap.size ≤ g ∧ w'.heap[g]? = some (.cells #[.int .i64 (lo * 1000000), .int .i64 (hi * 1000000)] 58 (0, 0)) ∧ Below w.heap.size w w') := by
  go_enter Try.func8, Try.ntmps8
  go_wp2_with fail
  obtain ⟨w1, hw1, hb1, hx1, y1, y2⟩ := any_block w #[.string T, .slice (some ⟨w.heap.size + 1, 0, none⟩) 1 1] 35
  obtain ⟨w2, hw2, hb2, hx2, y3, y4⟩ := any_block w1 #[.int .i64 (lo * 1000000), .int .i64 (hi * 1000000)] 58
  rw [hw1, hw2]
  have e1 : w1.heap.size = w.heap.size + 1 := by omega
  have g1 := (hb2.block _ (by omega)).trans hx1
  have r0 := cell_of_heap g1 0
  have r1 := cell_of_heap g1 1
  refine bodyPost_ret (v := .agg #[.string T, .slice (some ⟨w.heap.size + 1, 0, none⟩) 1 1]) (by simp [results, Try.results8, go_sem, r0, r1]) rfl ?_
  rw [e1] at hx2
  exact ⟨w.heap.size + 1, rfl, Nat.le_succ _, hx2, hb1.trans (hb2.mono hb1.size)⟩
/-- One input in a row of its own; none. -/
theorem depsAt_one {Z : Zone} {w : World} {g : Nat} {v0 v1 : Value} {d : Dp} {t : TypeId} (h : w.heap[g]? = some (.cells #[v0, v1] t (0, 0))) (hz : Z g) (hd : DepAt Z w v0 v1 d) : DepsAt Z w (.slice (some ⟨g, 0, none⟩) 1 1) [d] :=
  ⟨_, _, rfl, ⟨Nat.le_refl _, by simp, by unfold maxLen; omega, fun e => by cases e⟩, fun _ => ⟨g, 0, rfl, hz, lt_of_heap h, fun i x hi => by
    cases i with
    | zero =>
      obtain rfl := Option.some.inj hi
      exact ⟨v0, v1, cell_of_heap h 0, cell_of_heap h 1, hd⟩
    | succ i => cases hi⟩⟩
theorem depsAt_none {Z : Zone} {w : World} : DepsAt Z w (.slice none 0 0) [] := ⟨none, 0, rfl, ⟨Nat.le_refl _, by simp, by unfold maxLen; omega, fun _ => ⟨rfl, rfl⟩⟩, fun h => absurd rfl h⟩
theorem depAt_one {Z : Zone} {w : World} {g : Nat} {n : List UInt8} {T : ByteArray} {lo hi : Int} {t : TypeId} (hT : strV n = .string T) (hn : n.length ≤ 1000) (h : w.heap[g]? = some (.cells #[.int .i64 lo, .int .i64 hi] t (0, 0))) (hz : Z g) : DepAt Z w (.string T) (.slice (some ⟨g, 0, none⟩) 1 1) (n, [(lo, hi)]) :=
  ⟨hT.symm, by dsimp only; omega, _, _, rfl, ⟨Nat.le_refl _, by simp, by unfold maxLen; omega, fun e => by cases e⟩, fun _ => ⟨g, 0, rfl, hz, lt_of_heap h, fun i x hi => by
    cases i with
    | zero =>
      obtain rfl := Option.some.inj hi
      exact ⟨cell_of_heap h 0, cell_of_heap h 1⟩
    | succ i => cases hi⟩⟩
end Go.Proofs.Ytnbeklmjinnbaaa

/- DERIVED. A region that draws its order, walked once in the order of the text, in a family of worlds that the calls stay in. No program in sight. -/
namespace Go.Proofs.Ytnbeklmjinnbaaa
open Go.RowKit

theorem wp_region_fam {P : Program} {id : Nat} {Q : Exit → Act → World → Prop} {a : Act} {w : World} {l : List Oper} {ι : Type} (F : ι → World) (n0 : ι) (h0 : F n0 = { w with drawn := w.drawn + 1 }) (hm : P.follows .mixedOrders = true) (hB : Region.lexB .any l.toArray = true)
    (h : wpQuiet P l.toArray (fun w' => ∃ n, w' = F n) (fun a' => ∀ w', (∃ n, w' = F n) → Q .normal a' w') l a) : (Code.region id l.toArray true).wp P Q a w :=
  wp_region_quiet (C := fun w' => ∃ n, w' = F n) hm hB ⟨n0, h0.symm⟩ (by simpa using h)
/-- The worlds that keep all that was there. -/
theorem below_fam (w : World) : ∃ (ι : Type) (F : ι → World), (∀ k, ∃ n0, F n0 = w.drewN k) ∧ (∀ n, Below w.heap.size w (F n)) ∧ ∀ w', Below w.heap.size w w' → ∃ m, w' = F m :=
  ⟨{ w' : World // Below w.heap.size w w' }, Subtype.val, fun k => ⟨⟨w.drewN k, ⟨rfl, rfl, rfl, Nat.le_refl _, fun _ _ => rfl⟩⟩, rfl⟩, fun n => n.2, fun w' h => ⟨⟨w', h⟩, rfl⟩⟩
/-- A call that only makes memory stays in that family. -/
theorem calls_fam {P : Program} {f : FuncId} {args : Array Value} {v : Value} {w : World} {ι : Type} {F : ι → World} (hF : ∀ n, Below w.heap.size w (F n)) (hG : ∀ w', Below w.heap.size w w' → ∃ m, w' = F m)
    (h : ∀ W, Below w.heap.size w W → Calls P f args W (fun e w' => e = .returned v ∧ Below W.heap.size W w')) : ∀ n, Calls P f args (F n) (fun e w' => e = .returned v ∧ ∃ m, w' = F m) :=
  fun n => (h _ (hF n)).mono fun _ _ ⟨h1, h2⟩ => ⟨h1, hG _ ((hF n).trans (h2.mono (hF n).size))⟩
end Go.Proofs.Ytnbeklmjinnbaaa

/- DERIVED. What the document tells of a choice is so. (Printed by a program.) -/
namespace Go.Proofs.Ytnbeklmjinnbaaa
open Go.RowKit Go.Shelf
set_option linter.unusedVariables false
set_option linter.unusedSimpArgs false
set_option maxRecDepth 100000

/-- A stock that was made since w0. -/
def StkOwn (w0 w : World) (B : Nat) (st : St) : Prop := ∃ F, StkAt w B F st ∧ (∀ b ∈ F, w0.heap.size ≤ b) ∧ Below w0.heap.size w0 w
theorem StkOwn.below {w0 w w' : World} {B : Nat} {st : St} (h : StkOwn w0 w B st) (hb : Below w.heap.size w w') : StkOwn w0 w' B st := by
  obtain ⟨F, h1, h2, h3⟩ := h
  exact ⟨F, h1.below hb, h2, h3.trans (hb.mono h3.size)⟩
theorem StkOwn.step {w0 w w' : World} {B : Nat} {F : List Nat} {st' : St} {c : Int} {e : Ending} (hF : ∀ b ∈ F, w0.heap.size ≤ b) (hb : Below w0.heap.size w0 w) (h : SeedP w B F st' c e w') : e = .returned (.int .i64 c) ∧ StkOwn w0 w' B st' := by
  obtain ⟨rfl, F', h1, h2, h3⟩ := h
  exact ⟨rfl, F', h1, fun b hb' => (h3 b hb').elim (hF b) (fun h => Nat.le_trans hb.size h), hb.trans (below_of_ch h2 hF hb.size)⟩
theorem StkOwn.below0 {w0 w : World} {B : Nat} {st : St} (h : StkOwn w0 w B st) : Below w0.heap.size w0 w := by obtain ⟨F, h1, h2, h3⟩ := h; exact h3
theorem own_seed {w0 w : World} {B : Nat} {st : St} (h : StkOwn w0 w B st) (n : List UInt8) (k : Int) (hl : n.length ≤ 1000) {T : ByteArray} (hT : strV n = .string T) : Calls Try.prog 7 #[.pointer (some ⟨B, 0, none⟩), .agg #[.string T, .int .i64 k, .int .i64 0, .int .i64 0]] w (fun e w' => e = .returned (.int .i64 (st.seed (n, k, 0, 0)).2) ∧ StkOwn w0 w' B (st.seed (n, k, 0, 0)).1) := by
  obtain ⟨F, h1, h2, h3⟩ := h
  have := stkseed_any w B F st h1 (n, k, 0, 0) (by dsimp only; omega)
  dsimp only at this
  rw [hT] at this
  exact this.mono fun e w' h => StkOwn.step h2 h3 h
theorem own_add {w0 w : World} {B : Nat} {st : St} (h : StkOwn w0 w B st) (n : List UInt8) (k : Int) (hl : n.length ≤ 1000) {T : ByteArray} (hT : strV n = .string T) {Z : Zone} {tl : Dp} {bd rn : List Dp} {v0 v1 v2 v3 : Value} (hd : DepAt Z w v0 v1 tl) (hb : DepsAt Z w v2 bd) (hr : DepsAt Z w v3 rn) : Calls Try.prog 9 #[.pointer (some ⟨B, 0, none⟩), .agg #[.string T, .int .i64 k, .int .i64 0, .int .i64 0, v0, v1, v2, v3]] w (fun e w' => e = .returned (.int .i64 (st.add ⟨(n, k, 0, 0), tl, bd, rn⟩).2) ∧ StkOwn w0 w' B (st.add ⟨(n, k, 0, 0), tl, bd, rn⟩).1) := by
  obtain ⟨F, h1, h2, h3⟩ := h
  have := stkadd_any w B F st h1 Z _ ⟨(n, k, 0, 0), tl, bd, rn⟩ ⟨v0, v1, v2, v3, rfl, by dsimp only; omega, hd, hb, hr⟩
  dsimp only at this
  rw [hT] at this
  exact this.mono fun e w' h => StkOwn.step h2 h3 h
theorem own_solve {w0 w : World} {B : Nat} {st : St} (h : StkOwn w0 w B st) (n : List UInt8) (k : Int) {T : ByteArray} (hT : strV n = .string T) {Z : Zone} {vp : Value} {pool : List Pk} (hp : PkgsAt Z w vp pool) (left : Int) (hl : left ≤ 2000) :
    Calls Try.prog 10 #[.pointer (some ⟨B, 0, none⟩), .agg #[.string T, .int .i64 k, .int .i64 0, .int .i64 0], vp, .int .i64 left] w (SolveP w (solveT st (n, k, 0, 0) pool left)) := by
  obtain ⟨F, h1, h2, h3⟩ := h
  have := solve_any w B F st h1 (n, k, 0, 0) vp Z pool hp left hl
  dsimp only at this
  rw [hT] at this
  exact this
theorem solveT_of {st : St} {p : Pk} {pool : List Pk} {left : Int} {r : Rc} {t : Pk} {ts : List Pk} {n : Nat} {res : Res × Nat} (hr : st.rec? p = some r) (hf : st.fitsP pool r.tool = t :: ts) (hl : ¬ left < 1) (hm : meetF (st.fitsP pool) st.runs n (left - 1).toNat r.build [] = some res) :
    solveT st p pool left = match res with
      | (.ok ch, b) => ((t, sortP ch), left - b, 0)
      | (.clash, b) => (ch0, left - b, 12)
      | (.budget, b) => (ch0, left - b, 60) := by
  unfold solveT
  rw [hr]
  dsimp only
  rw [hf]
  dsimp only
  rw [if_neg hl, meet_of hm]
  rcases res with ⟨_ | _ | _, b⟩ <;> rfl
theorem pkgsAt_row {Z : Zone} {w : World} {g : Nat} {ps : List Pk} {t : TypeId} {cs : Array Value} (h : w.heap[g]? = some (.cells cs t (0, 0))) (hc : cs.toList = ps.flatMap pkL) (hz : Z g) (hm : ps.length ≤ 8796093022208 := by decide) : PkgsAt Z w (.slice (some ⟨g, 0, none⟩) ps.length ps.length) ps :=
  ⟨_, _, rfl, ⟨Nat.le_refl _, hm, by unfold maxLen; omega, fun e => by cases e⟩, fun _ => ⟨g, 0, rfl, hz, lt_of_heap h, fun i p hi j u hj => by
    rw [cell_of_heap h, ← Array.getElem?_toList, hc]
    have h4 : j < 4 := by have := (List.getElem?_eq_some_iff.1 hj).1; rwa [pkL_len] at this
    rw [Nat.zero_add, flat_at pkL_len ps i p hi j h4]
    exact hj⟩⟩
def n_cc : List UInt8 := [99, 99]
def n_rt : List UInt8 := [114, 116]
def n_lib : List UInt8 := [108, 105, 98]
def n_app : List UInt8 := [97, 112, 112]
def stA0 : St := (St.empty.seed (n_cc, 1, 0, 0)).1
def stA1 : St := (stA0.seed (n_rt, 1, 0, 0)).1
def stA2 : St := (stA1.add (⟨(n_lib, 1, 0, 0), (n_cc, [(0, 9000000)]), [], [(n_rt, [(1000000, 2000000)])]⟩ : Rc)).1
def stA3 : St := (stA2.add (⟨(n_lib, 2, 0, 0), (n_cc, [(0, 9000000)]), [], [(n_rt, [(2000000, 3000000)])]⟩ : Rc)).1
def stA4 : St := (stA3.add (⟨(n_app, 1, 0, 0), (n_cc, [(0, 9000000)]), [(n_lib, [(0, 9000000)])], []⟩ : Rc)).1
def poolA : List Pk := [(n_rt, 1, 0, 0), (n_lib, 2, 0, 0), (n_lib, 1, 0, 0), (n_cc, 1, 0, 0)]
theorem solveP_A {w w' : World} {e : Ending} (h : SolveP w (((n_cc, 1, 0, 0), [(n_lib, 1, 0, 0), (n_rt, 1, 0, 0)]), 4, 0) e w') : ∃ g c, e = .returned (.tuple #[.agg #[.string ⟨#[99, 99]⟩, .int .i64 1, .int .i64 0, .int .i64 0, .slice (some ⟨g, 0, none⟩) 2 c], .int .i64 4, .int .i64 0]) ∧
    (∀ j u, (pkL (n_lib, 1, 0, 0))[j]? = some u → w'.cell? ⟨g, j, none⟩ = some u) ∧ (∀ j u, (pkL (n_rt, 1, 0, 0))[j]? = some u → w'.cell? ⟨g, 4 + j, none⟩ = some u) ∧ Below w.heap.size w w' := by
  obtain ⟨v, s, a, n, c, rfl, rfl, hs, rfl, how, hb⟩ := h
  obtain rfl : s = ⟨#[99, 99]⟩ := by injection hs with hs; exact hs.symm
  rcases how.2 with ⟨_, e2⟩ | ⟨g, cap, cur, e1, hg, hgb, _⟩
  · cases e2
  · obtain ⟨rfl, -, rfl⟩ := Value.slice.inj e1
    have hc := ownsC_cells how (g := g) rfl
    have hl : ∀ (i : Nat) (p : Pk), [((n_lib, 1, 0, 0) : Pk), (n_rt, 1, 0, 0)][i]? = some p → ∀ j u, (pkL p)[j]? = some u → w'.cell? ⟨g, i * 4 + j, none⟩ = some u := fun i p hi j u hj => hc _ _ (by
      have h4 : j < 4 := by have := (List.getElem?_eq_some_iff.1 hj).1; rwa [pkL_len] at this
      dsimp only
      rw [flat_at pkL_len _ i p hi j h4]; exact hj)
    refine ⟨g, c, rfl, fun j u hj => ?_, fun j u hj => hl 1 _ rfl j u hj, hb⟩
    have := hl 0 _ rfl j u hj
    rwa [Nat.zero_mul, Nat.zero_add] at this
theorem solve_A : solveT stA4 (n_app, 1, 0, 0) poolA 10 = (((n_cc, 1, 0, 0), [(n_lib, 1, 0, 0), (n_rt, 1, 0, 0)]), 4, 0) :=
  solveT_of (r := (⟨(n_app, 1, 0, 0), (n_cc, [(0, 9000000)]), [(n_lib, [(0, 9000000)])], []⟩ : Rc)) (t := (n_cc, 1, 0, 0)) (ts := []) (n := 10) (res := (.ok [(n_lib, 1, 0, 0), (n_rt, 1, 0, 0)], 6)) (by kernel_rfl) (by kernel_rfl) (by decide) (by kernel_rfl)
set_option maxHeartbeats 8000000 in
theorem alive_any (w : World) : Calls Try.prog 4 #[] w (fun e w' => e = .returned (.bool true) ∧ Below w.heap.size w w') := by
  have HNW := Lib.hid (stknew_any w)
  go_enter Try.func4, Try.ntmps4
  go_wp2_with fail
  refine HNW.out.mono ?_
  rintro e w0 ⟨B, F0, rfl, hst, hF0, hb0⟩
  have HS0 := Lib.hid (show StkOwn w w0 B St.empty from ⟨F0, hst, hF0, hb0⟩)
  clear hst hF0 hb0
  go_wp2_with fail
  refine (pkg_any w0 _ _).mono ?_
  rintro e w1 ⟨rfl, hb⟩
  have HS1 := Lib.hid (HS0.out.below hb)
  clear hb
  go_wp2_with fail
  refine (own_seed HS1.out n_cc 1 (by decide) rfl).mono ?_
  rintro e w2 ⟨rfl, hs⟩
  have HS2 := Lib.hid (show StkOwn w w2 B stA0 from hs)
  clear hs
  go_wp2_with fail
  refine (pkg_any w2 _ _).mono ?_
  rintro e w3 ⟨rfl, hb⟩
  have HS3 := Lib.hid (HS2.out.below hb)
  clear hb
  go_wp2_with fail
  refine (own_seed HS3.out n_rt 1 (by decide) rfl).mono ?_
  rintro e w4 ⟨rfl, hs⟩
  have HS4 := Lib.hid (show StkOwn w w4 B stA1 from hs)
  clear hs
  go_wp2_with fail
  refine (pkg_any w4 _ _).mono ?_
  rintro e w5 ⟨rfl, hb⟩
  have HS5 := Lib.hid (HS4.out.below hb)
  clear hb
  go_wp2_with fail
  refine (dep_any w5 _ _ _ (by decide) (by decide)).mono ?_
  rintro e w6 ⟨g6, rfl, hg, hx, hb⟩
  have HS6 := Lib.hid (HS5.out.below hb)
  have HT6 := Lib.hid (show DepAt zAll w6 (.string ⟨#[99, 99]⟩) (.slice (some ⟨g6, 0, none⟩) 1 1) (n_cc, [(0, 9000000)]) from depAt_one rfl (by decide) hx trivial)
  clear hg hx hb
  go_wp2_with fail
  refine (dep_any w6 _ _ _ (by decide) (by decide)).mono ?_
  rintro e w7 ⟨g7, rfl, hg, hx, hb⟩
  obtain ⟨w8, hw8, hb', hx', z1, z2⟩ := any_block w7 #[.string ⟨#[114, 116]⟩, .slice (some ⟨g7, 0, none⟩) 1 1] 35
  obtain ⟨h8, hh⟩ : ∃ b, w7.heap.size = b := ⟨_, rfl⟩
  have HT8 := Lib.hid (HT6.out.below (hb.trans (hb'.mono hb.size)))
  have HD8 := Lib.hid (show DepsAt zAll w8 (.slice (some ⟨h8, 0, none⟩) 1 1) [(n_rt, [(1000000, 2000000)])] from depsAt_one (by rw [← hh]; exact hx') trivial ((depAt_one rfl (by decide) hx trivial : DepAt zAll w7 _ _ _).below hb'))
  have HS8 := Lib.hid ((HS6.out.below hb).below hb')
  clear hg hx hb hb' hx' z1 z2
  go_wp2_with fail
  refine (own_add HS8.out n_lib 1 (by decide) rfl HT8.out depsAt_none HD8.out).mono ?_
  rintro e w9 ⟨rfl, hs⟩
  have HS9 := Lib.hid (show StkOwn w w9 B stA2 from hs)
  clear hs hh
  go_wp2_with fail
  refine (pkg_any w9 _ _).mono ?_
  rintro e w10 ⟨rfl, hb⟩
  have HS10 := Lib.hid (HS9.out.below hb)
  clear hb
  go_wp2_with fail
  refine (dep_any w10 _ _ _ (by decide) (by decide)).mono ?_
  rintro e w11 ⟨g11, rfl, hg, hx, hb⟩
  have HS11 := Lib.hid (HS10.out.below hb)
  have HT11 := Lib.hid (show DepAt zAll w11 (.string ⟨#[99, 99]⟩) (.slice (some ⟨g11, 0, none⟩) 1 1) (n_cc, [(0, 9000000)]) from depAt_one rfl (by decide) hx trivial)
  clear hg hx hb
  go_wp2_with fail
  refine (dep_any w11 _ _ _ (by decide) (by decide)).mono ?_
  rintro e w12 ⟨g12, rfl, hg, hx, hb⟩
  obtain ⟨w13, hw13, hb', hx', z1, z2⟩ := any_block w12 #[.string ⟨#[114, 116]⟩, .slice (some ⟨g12, 0, none⟩) 1 1] 35
  obtain ⟨h13, hh⟩ : ∃ b, w12.heap.size = b := ⟨_, rfl⟩
  have HT13 := Lib.hid (HT11.out.below (hb.trans (hb'.mono hb.size)))
  have HD13 := Lib.hid (show DepsAt zAll w13 (.slice (some ⟨h13, 0, none⟩) 1 1) [(n_rt, [(2000000, 3000000)])] from depsAt_one (by rw [← hh]; exact hx') trivial ((depAt_one rfl (by decide) hx trivial : DepAt zAll w12 _ _ _).below hb'))
  have HS13 := Lib.hid ((HS11.out.below hb).below hb')
  clear hg hx hb hb' hx' z1 z2
  go_wp2_with fail
  refine (own_add HS13.out n_lib 2 (by decide) rfl HT13.out depsAt_none HD13.out).mono ?_
  rintro e w14 ⟨rfl, hs⟩
  have HS14 := Lib.hid (show StkOwn w w14 B stA3 from hs)
  clear hs hh
  go_wp2_with fail
  refine (pkg_any w14 _ _).mono ?_
  rintro e w15 ⟨rfl, hb⟩
  have HS15 := Lib.hid (HS14.out.below hb)
  clear hb
  go_wp2_with fail
  refine (dep_any w15 _ _ _ (by decide) (by decide)).mono ?_
  rintro e w16 ⟨g16, rfl, hg, hx, hb⟩
  have HS16 := Lib.hid (HS15.out.below hb)
  have HT16 := Lib.hid (show DepAt zAll w16 (.string ⟨#[99, 99]⟩) (.slice (some ⟨g16, 0, none⟩) 1 1) (n_cc, [(0, 9000000)]) from depAt_one rfl (by decide) hx trivial)
  clear hg hx hb
  go_wp2_with fail
  refine (dep_any w16 _ _ _ (by decide) (by decide)).mono ?_
  rintro e w17 ⟨g17, rfl, hg, hx, hb⟩
  obtain ⟨w18, hw18, hb', hx', z1, z2⟩ := any_block w17 #[.string ⟨#[108, 105, 98]⟩, .slice (some ⟨g17, 0, none⟩) 1 1] 35
  obtain ⟨h18, hh⟩ : ∃ b, w17.heap.size = b := ⟨_, rfl⟩
  have HT18 := Lib.hid (HT16.out.below (hb.trans (hb'.mono hb.size)))
  have HD18 := Lib.hid (show DepsAt zAll w18 (.slice (some ⟨h18, 0, none⟩) 1 1) [(n_lib, [(0, 9000000)])] from depsAt_one (by rw [← hh]; exact hx') trivial ((depAt_one rfl (by decide) hx trivial : DepAt zAll w17 _ _ _).below hb'))
  have HS18 := Lib.hid ((HS16.out.below hb).below hb')
  clear hg hx hb hb' hx' z1 z2
  go_wp2_with fail
  refine (own_add HS18.out n_app 1 (by decide) rfl HT18.out HD18.out depsAt_none).mono ?_
  rintro e w19 ⟨rfl, hs⟩
  have HS19 := Lib.hid (show StkOwn w w19 B stA4 from hs)
  clear hs hh
  go_wp2_with fail
  refine (pkg_any w19 _ _).mono ?_
  rintro e w20 ⟨rfl, hb⟩
  have HS20 := Lib.hid (HS19.out.below hb)
  clear hb
  go_wp2_with fail
  refine (pkg_any w20 _ _).mono ?_
  rintro e w21 ⟨rfl, hb⟩
  have HS21 := Lib.hid (HS20.out.below hb)
  clear hb
  go_wp2_with fail
  refine (pkg_any w21 _ _).mono ?_
  rintro e w22 ⟨rfl, hb⟩
  have HS22 := Lib.hid (HS21.out.below hb)
  clear hb
  go_wp2_with fail
  refine (pkg_any w22 _ _).mono ?_
  rintro e w23 ⟨rfl, hb⟩
  have HS23 := Lib.hid (HS22.out.below hb)
  clear hb
  go_wp2_with fail
  refine (pkg_any w23 _ _).mono ?_
  rintro e w24 ⟨rfl, hb⟩
  have HS24 := Lib.hid (HS23.out.below hb)
  clear hb
  obtain ⟨w25, hw25, hb', hx', z1, z2⟩ := any_block w24 #[.string ⟨#[114, 116]⟩, .int .i64 1, .int .i64 0, .int .i64 0, .string ⟨#[108, 105, 98]⟩, .int .i64 2, .int .i64 0, .int .i64 0, .string ⟨#[108, 105, 98]⟩, .int .i64 1, .int .i64 0, .int .i64 0, .string ⟨#[99, 99]⟩, .int .i64 1, .int .i64 0, .int .i64 0] 28
  obtain ⟨hP, hhP⟩ : ∃ b, w24.heap.size = b := ⟨_, rfl⟩
  have HS25 := Lib.hid (HS24.out.below hb')
  have HPL := Lib.hid (show PkgsAt zAll w25 (.slice (some ⟨hP, 0, none⟩) 4 4) poolA from pkgsAt_row (ps := poolA) (by rw [← hhP]; exact hx') rfl trivial)
  clear hb' hx' z1 z2
  go_wp2_with fail
  refine (own_solve HS25.out n_app 1 rfl HPL.out 10 (by decide)).mono ?_
  intro e w26 hso
  rw [solve_A] at hso
  obtain ⟨g, c, rfl, hc0, hc1, hb⟩ := solveP_A hso
  clear hso
  obtain ⟨w27, hw27, hb', hx', z1, z2⟩ := any_block w26 #[.string ⟨#[99, 99]⟩, .int .i64 1, .int .i64 0, .int .i64 0, .slice (some ⟨g, 0, none⟩) 2 c] 42
  obtain ⟨hC, hhC⟩ : ∃ b, w26.heap.size = b := ⟨_, rfl⟩
  have HB27 := Lib.hid (show Below w.heap.size w w27 from (HS25.out.below (hb.trans (hb'.mono hb.size))).below0)
  obtain ⟨ι, F, hF0, hFB, hFG⟩ := below_fam w27
  have hpf := fun (T : ByteArray) (i : Int) => calls_fam hFB hFG (fun W _ => pkg_any W T i)
  rw [hhC] at hx'
  have hcF : ∀ n, (F n).heap[hC]? = some (.cells #[.string ⟨#[99, 99]⟩, .int .i64 1, .int .i64 0, .int .i64 0, .slice (some ⟨g, 0, none⟩) 2 c] 42 (0, 0)) := fun n => ((hFB n).block hC (lt_of_heap hx')).trans hx'
  have f0 := fun n => cell_of_heap (hcF n) 0
  have f1 := fun n => cell_of_heap (hcF n) 1
  have f2 := fun n => cell_of_heap (hcF n) 2
  have f3 := fun n => cell_of_heap (hcF n) 3
  have f4 := fun n => cell_of_heap (hcF n) 4
  have e0 : ∀ n, (F n).cell? ⟨g, 0, none⟩ = some (.string ⟨#[108, 105, 98]⟩) := fun n => below_keeps (hFB n) _ _ (below_keeps hb' _ _ (hc0 0 _ rfl))
  have e1 : ∀ n, (F n).cell? ⟨g, 1, none⟩ = some (.int .i64 1) := fun n => below_keeps (hFB n) _ _ (below_keeps hb' _ _ (hc0 1 _ rfl))
  have e2 : ∀ n, (F n).cell? ⟨g, 2, none⟩ = some (.int .i64 0) := fun n => below_keeps (hFB n) _ _ (below_keeps hb' _ _ (hc0 2 _ rfl))
  have e3 : ∀ n, (F n).cell? ⟨g, 3, none⟩ = some (.int .i64 0) := fun n => below_keeps (hFB n) _ _ (below_keeps hb' _ _ (hc0 3 _ rfl))
  have e4 : ∀ n, (F n).cell? ⟨g, 4, none⟩ = some (.string ⟨#[114, 116]⟩) := fun n => below_keeps (hFB n) _ _ (below_keeps hb' _ _ (hc1 0 _ rfl))
  have e5 : ∀ n, (F n).cell? ⟨g, 5, none⟩ = some (.int .i64 1) := fun n => below_keeps (hFB n) _ _ (below_keeps hb' _ _ (hc1 1 _ rfl))
  have e6 : ∀ n, (F n).cell? ⟨g, 6, none⟩ = some (.int .i64 0) := fun n => below_keeps (hFB n) _ _ (below_keeps hb' _ _ (hc1 2 _ rfl))
  have e7 : ∀ n, (F n).cell? ⟨g, 7, none⟩ = some (.int .i64 0) := fun n => below_keeps (hFB n) _ _ (below_keeps hb' _ _ (hc1 3 _ rfl))
  have q0 : ∀ W, (binOp .eql 28 (.agg #[.string ⟨#[99, 99]⟩, .int .i64 1, .int .i64 0, .int .i64 0]) (.agg #[.string ⟨#[99, 99]⟩, .int .i64 1, .int .i64 0, .int .i64 0])).run Try.prog W = .ok (.bool true) W := fun W => eqPk.1 (n_cc, 1, 0, 0) (n_cc, 1, 0, 0) W
  have q1 : ∀ W, (binOp .eql 28 (.agg #[.string ⟨#[108, 105, 98]⟩, .int .i64 1, .int .i64 0, .int .i64 0]) (.agg #[.string ⟨#[108, 105, 98]⟩, .int .i64 1, .int .i64 0, .int .i64 0])).run Try.prog W = .ok (.bool true) W := fun W => eqPk.1 (n_lib, 1, 0, 0) (n_lib, 1, 0, 0) W
  have q2 : ∀ W, (binOp .eql 28 (.agg #[.string ⟨#[114, 116]⟩, .int .i64 1, .int .i64 0, .int .i64 0]) (.agg #[.string ⟨#[114, 116]⟩, .int .i64 1, .int .i64 0, .int .i64 0])).run Try.prog W = .ok (.bool true) W := fun W => eqPk.1 (n_rt, 1, 0, 0) (n_rt, 1, 0, 0) W
  have HPF := Lib.hid hpf; have HFB := Lib.hid hFB; have HF0 := Lib.hid hF0
  clear hpf hFB hF0 hFG hcF hb hb' hx' hc0 hc1 z1 z2
  go_wp2_with fail
  obtain ⟨n0, hn0⟩ := HF0.out 1
  have hne : Nonempty ι := ⟨n0⟩
  refine wp_region_fam F n0 hn0 (by kernel_rfl) (by kernel_rfl) ?_
  repeat (go_big_quiet_step ((go_at_call 6; exact HPF.out _ _ _)))
  refine wpQuiet_nil ?_
  intro _ hw'
  obtain ⟨m0, hw''⟩ := hw'
  subst hw''
  go_wp2_with fail
  go_ret
  exact ⟨rfl, HB27.out.trans ((HFB.out _).mono HB27.out.size)⟩
end Go.Proofs.Ytnbeklmjinnbaaa

/- DERIVED. The chain of packages, each of which needs the next at run: what Solve answers of it. No walk. -/
namespace Go.Proofs.Ytnbeklmjinnbaaa
open Go.RowKit
set_option linter.unusedVariables false
set_option linter.unusedSimpArgs false

def n_top : List UInt8 := [116, 111, 112]
def letC (i : Nat) : List UInt8 := [UInt8.ofNat (97 + i)]
def pkC (i : Nat) : Pk := (letC i, 1, 0, 0)
def ccP : Pk := (n_cc, 1, 0, 0)
def topP : Pk := (n_top, 1, 0, 0)
def ccD : Dp := (n_cc, [(0, 9000000)])
def depC (i : Nat) : Dp := (letC i, [(1000000, 2000000)])
def runW (n i : Nat) : List Dp := if i < n then [depC i] else []
def rcC (n i : Nat) : Rc := ⟨pkC i, ccD, [], runW n (i + 1)⟩
def topR : Rc := ⟨topP, ccD, [depC 0], []⟩
def stC (n k : Nat) : St := ⟨[ccP], (List.range k).map (rcC n)⟩
def stT (n : Nat) : St := ⟨[ccP], (List.range n).map (rcC n) ++ [topR]⟩
def chC (k : Nat) : List Pk := (List.range k).map pkC
def poolC (cut k : Nat) : List Pk := ccP :: ((List.range k).filter (fun i => decide (i ≠ cut))).map pkC
theorem letC_inj {i j : Nat} (hi : i < 26) (hj : j < 26) (h : letC i = letC j) : i = j := by
  unfold letC at h
  injection h with h
  have := congrArg UInt8.toNat h
  simp at this
  omega
theorem letC_less {i j : Nat} (hi : i < 26) (hj : j < 26) (h : i < j) : pkLt (pkC i) (pkC j) = true := by
  have key : (List.range 26).all (fun i => (List.range 26).all fun j => !decide (i < j) || pkLt (pkC i) (pkC j)) = true := by decide
  have h1 := List.all_eq_true.1 key i (List.mem_range.2 hi)
  have h2 := List.all_eq_true.1 h1 j (List.mem_range.2 hj)
  simpa [h] using h2
theorem letC_cc (i : Nat) : letC i ≠ n_cc := fun h => by have := congrArg List.length h; simp [letC, n_cc] at this
theorem letC_top (i : Nat) : letC i ≠ n_top := fun h => by have := congrArg List.length h; simp [letC, n_top] at this
theorem good_C {n i : Nat} (hn : n ≤ 25) (hi : i < n) : goodRc (rcC n i) = true := by
  have key : (List.range 26).all (fun n => (List.range n).all fun i => goodRc (rcC n i)) = true := by kernel_rfl
  exact List.all_eq_true.1 (List.all_eq_true.1 key n (List.mem_range.2 (by omega))) i (List.mem_range.2 hi)
theorem stC_pkgs (n k : Nat) : (stC n k).pkgs = ccP :: chC k := by
  unfold St.pkgs stC chC
  simp [rcC, Function.comp_def]
theorem stT_pkgs (n : Nat) : (stT n).pkgs = ccP :: (chC n ++ [topP]) := by
  unfold St.pkgs stT chC
  simp [rcC, Function.comp_def, topR]
theorem mem_chC {k : Nat} {p : Pk} : p ∈ chC k ↔ ∃ i, i < k ∧ p = pkC i := by
  unfold chC
  rw [List.mem_map]
  exact ⟨fun ⟨i, h, e⟩ => ⟨i, List.mem_range.1 h, e.symm⟩, fun ⟨i, h, e⟩ => ⟨i, List.mem_range.2 h, e.symm⟩⟩
theorem chC_srt {k : Nat} (hk : k ≤ 26) : SrtP (chC k) := by
  unfold chC SrtP
  rw [List.pairwise_map]
  refine List.pairwise_lt_range.imp_of_mem fun {a b} ha hb h => ?_
  exact letC_less (by have := List.mem_range.1 ha; omega) (by have := List.mem_range.1 hb; omega) h
theorem sortP_chC {k : Nat} (hk : k ≤ 26) : sortP (chC k) = chC k := srtP_ext (sortP_srt _) (chC_srt hk) (fun p => mem_sortP)
theorem has_no {s : St} {p : Pk} (h : p ∉ s.pkgs) : s.has p = false := by
  cases hh : s.has p
  · rfl
  · exact absurd (St.has_iff.1 hh) h
theorem add_C {n k : Nat} (hn : n ≤ 25) (hk : k < n) : (stC n k).add (rcC n k) = (stC n (k + 1), 0) := by
  have h1 : (stC n k).has (rcC n k).pkg = false := by
    refine has_no ?_
    rw [stC_pkgs, List.mem_cons, mem_chC]
    rintro (h | ⟨i, hi, h⟩)
    · exact letC_cc k (Prod.mk.inj h).1
    · have := letC_inj (by omega) (by omega) (Prod.mk.inj h).1
      omega
  unfold St.add
  rw [good_C hn hk, h1]
  simp only [Bool.true_eq_false, if_false, Bool.false_eq_true]
  rw [if_neg (by simp [stC]; omega)]
  unfold stC
  simp [List.range_succ]
theorem add_top {n : Nat} (hn : n ≤ 25) : (stC n n).add topR = (stT n, 0) := by
  have h1 : (stC n n).has topR.pkg = false := by
    refine has_no ?_
    rw [stC_pkgs, List.mem_cons, mem_chC]
    rintro (h | ⟨i, hi, h⟩)
    · cases (Prod.mk.inj h).1
    · exact letC_top i (Prod.mk.inj h).1.symm
  unfold St.add
  rw [show goodRc topR = true by kernel_rfl, h1]
  simp only [Bool.true_eq_false, if_false, Bool.false_eq_true]
  rw [if_neg (by simp [stC]; omega)]
  rfl
theorem one_of {L : List Pk} {a : Pk} (hn : L.Nodup) (h : ∀ p ∈ L, p = a) : L = if a ∈ L then [a] else [] := by
  match L, hn, h with
  | [], _, _ => rfl
  | [x], _, h =>
    obtain rfl := h x (List.mem_singleton_self x)
    simp
  | x :: y :: l, hn, h =>
    have e1 := h x (List.mem_cons_self ..)
    have e2 := h y (List.mem_cons_of_mem _ (List.mem_cons_self ..))
    subst e1
    subst e2
    exact absurd (List.mem_cons_self ..) (List.nodup_cons.1 hn).1
theorem SrtP.nodup {l : List Pk} (h : SrtP l) : l.Nodup := h.imp pkLt_ne
theorem fitsP_nodup (st : St) (pool : List Pk) (d : Dp) : (st.fitsP pool d).Nodup := by
  unfold St.fitsP St.fits St.all
  exact ((List.pairwise_reverse.2 ((((sortP_srt _).nodup).sublist List.filter_sublist).imp fun h e => h e.symm) : List.Nodup _)).sublist List.filter_sublist
theorem mem_poolC {cut k : Nat} {p : Pk} : p ∈ poolC cut k ↔ p = ccP ∨ ∃ i, i < k ∧ i ≠ cut ∧ p = pkC i := by
  unfold poolC
  rw [List.mem_cons, List.mem_map]
  refine or_congr Iff.rfl ⟨fun ⟨i, h, e⟩ => ?_, fun ⟨i, h, h', e⟩ => ⟨i, List.mem_filter.2 ⟨List.mem_range.2 h, by simpa using h'⟩, e.symm⟩⟩
  obtain ⟨h1, h2⟩ := List.mem_filter.1 h
  exact ⟨i, List.mem_range.1 h1, by simpa using h2, e.symm⟩
theorem fits_C {n cut i : Nat} (hn : n ≤ 25) (hi : i < n) : (stT n).fitsP (poolC cut n) (depC i) = if i = cut then [] else [pkC i] := by
  have h1 : ∀ p ∈ (stT n).fitsP (poolC cut n) (depC i), p = pkC i := by
    intro p hp
    obtain ⟨h1, h2, h3⟩ := St.mem_fitsP.1 hp
    have hnm : p.1 = letC i := by
      unfold willB at h3
      rw [Bool.and_eq_true, decide_eq_true_eq] at h3
      exact h3.1
    rcases mem_poolC.1 h1 with rfl | ⟨k, hk, -, rfl⟩
    · exact absurd hnm.symm (letC_cc i)
    · rw [letC_inj (by omega) (by omega) hnm]
  have h2 : pkC i ∈ (stT n).fitsP (poolC cut n) (depC i) ↔ i ≠ cut := by
    rw [St.mem_fitsP, mem_poolC, stT_pkgs]
    constructor
    · rintro ⟨h | ⟨k, hk, hc, h⟩, -⟩
      · exact absurd (Prod.mk.inj h).1 (letC_cc i)
      · rw [letC_inj (by omega) (by omega) (Prod.mk.inj h).1]; exact hc
    · intro h
      refine ⟨.inr ⟨i, hi, h, rfl⟩, List.mem_cons_of_mem _ (List.mem_append_left _ (mem_chC.2 ⟨i, hi, rfl⟩)), ?_⟩
      unfold willB depC pkC
      simp [spanHas, verGood, inGaps, verNum]
  rw [one_of (fitsP_nodup _ _ _) h1]
  by_cases hc : i = cut
  · rw [if_pos hc, if_neg (fun h => (h2.1 h) hc)]
  · rw [if_neg hc, if_pos (h2.2 hc)]
theorem fits_cc {n cut : Nat} (hn : n ≤ 25) : (stT n).fitsP (poolC cut n) ccD = [ccP] := by
  have h1 : ∀ p ∈ (stT n).fitsP (poolC cut n) ccD, p = ccP := by
    intro p hp
    obtain ⟨h1, h2, h3⟩ := St.mem_fitsP.1 hp
    have hnm : p.1 = n_cc := by
      unfold willB at h3
      rw [Bool.and_eq_true, decide_eq_true_eq] at h3
      exact h3.1
    rcases mem_poolC.1 h1 with rfl | ⟨k, hk, -, rfl⟩
    · rfl
    · exact absurd hnm (letC_cc k)
  have h2 : ccP ∈ (stT n).fitsP (poolC cut n) ccD := by
    rw [St.mem_fitsP, mem_poolC, stT_pkgs]
    exact ⟨.inl rfl, List.mem_cons_self .., by kernel_rfl⟩
  rw [one_of (fitsP_nodup _ _ _) h1, if_pos h2]
theorem stT_ok {n : Nat} (hn : n ≤ 25) : (stT n).Ok := by
  refine ⟨fun p hp => ?_, ?_⟩
  · rw [stT_pkgs] at hp
    rcases List.mem_cons.1 hp with rfl | hp
    · rfl
    · rcases List.mem_append.1 hp with hp | hp
      · obtain ⟨i, -, rfl⟩ := mem_chC.1 hp; rfl
      · obtain rfl := List.mem_singleton.1 hp; rfl
  · rw [stT_pkgs, List.nodup_cons, List.nodup_append]
    refine ⟨fun h => ?_, (chC_srt (by omega)).nodup, by simp, fun a ha b hb => ?_⟩
    · rcases List.mem_append.1 h with hp | hp
      · obtain ⟨i, -, e⟩ := mem_chC.1 hp; exact letC_cc i (Prod.mk.inj e).1.symm
      · cases (Prod.mk.inj (List.mem_singleton.1 hp)).1
    · obtain rfl := List.mem_singleton.1 hb
      obtain ⟨i, -, rfl⟩ := mem_chC.1 ha
      exact fun e => letC_top i (Prod.mk.inj e).1
theorem runs_C {n i : Nat} (hn : n ≤ 25) (hi : i < n) : (stT n).runs (pkC i) = runW n (i + 1) := by
  have : (stT n).rec? (rcC n i).pkg = some (rcC n i) := St.rec?_of (stT_ok hn) (List.mem_append_left _ (List.mem_map.2 ⟨i, List.mem_range.2 hi, rfl⟩))
  unfold St.runs
  rw [show pkC i = (rcC n i).pkg from rfl, this]
  rfl
theorem rec_top {n : Nat} (hn : n ≤ 25) : (stT n).rec? topP = some topR :=
  St.rec?_of (r := topR) (stT_ok hn) (List.mem_append_right _ (List.mem_singleton_self _))
theorem find_C {i : Nat} (hi : i < 26) : (chC i).find? (fun p => decide (p.1 = (depC i).1)) = none := by
  rw [List.find?_eq_none]
  intro p hp
  obtain ⟨k, hk, rfl⟩ := mem_chC.1 hp
  rw [decide_eq_true_eq]
  intro h
  have := letC_inj (by omega) (by omega) h
  omega
theorem chC_succ (i : Nat) : chC i ++ [pkC i] = chC (i + 1) := by
  unfold chC
  simp [List.range_succ]
theorem meet_ok {n cut : Nat} (hn : n ≤ 25) (hc : n ≤ cut) : ∀ (j i b : Nat), i + j = n → j ≤ b → meetF ((stT n).fitsP (poolC cut n)) (stT n).runs (j + 1) b (runW n i) (chC i) = some (.ok (chC n), b - j)
  | 0, i, b, hi, hb => by
    obtain rfl : i = n := by omega
    unfold runW
    rw [if_neg (by omega)]
    rfl
  | j + 1, i, b, hi, hb => by
    unfold runW
    rw [if_pos (by omega)]
    unfold meetF
    rw [find_C (by omega)]
    dsimp only
    rw [fits_C hn (by omega), if_neg (by omega)]
    obtain ⟨b', rfl⟩ : ∃ b', b = b' + 1 := ⟨b - 1, by omega⟩
    unfold tryF
    rw [List.nil_append, runs_C hn (by omega), chC_succ, meet_ok hn hc j (i + 1) b' (by omega) (by omega)]
    dsimp only
    rw [show b' + 1 - (j + 1) = b' - j from by omega]
theorem meet_no {n cut : Nat} (hn : n ≤ 25) (hc : cut < n) : ∀ (j i b : Nat), i + j = cut → j ≤ b → meetF ((stT n).fitsP (poolC cut n)) (stT n).runs (j + 1) b (runW n i) (chC i) = some (.clash, b - j)
  | 0, i, b, hi, hb => by
    unfold runW
    rw [if_pos (by omega)]
    unfold meetF
    rw [find_C (by omega)]
    dsimp only
    rw [fits_C hn (by omega), if_pos (by omega)]
    cases b <;> rfl
  | j + 1, i, b, hi, hb => by
    unfold runW
    rw [if_pos (by omega)]
    unfold meetF
    rw [find_C (by omega)]
    dsimp only
    rw [fits_C hn (by omega), if_neg (by omega)]
    obtain ⟨b', rfl⟩ : ∃ b', b = b' + 1 := ⟨b - 1, by omega⟩
    unfold tryF
    rw [List.nil_append, runs_C hn (by omega), chC_succ, meet_no hn hc j (i + 1) b' (by omega) (by omega)]
    dsimp only
    rw [show b' + 1 - (j + 1) = b' - j from by omega]
    generalize b' - j = m
    cases m <;> rfl
theorem solve_C_ok {n cut : Nat} (h1 : 1 ≤ n) (hn : n ≤ 25) (hc : n ≤ cut) : solveT (stT n) topP (poolC cut n) 100 = ((ccP, chC n), (n : Int) + 1, 0) := by
  rw [solveT_of (r := topR) (t := ccP) (ts := []) (n := n + 1) (res := (.ok (chC n), 99 - n)) (rec_top hn) (fits_cc hn) (by decide) (by
    have := meet_ok hn hc n 0 99 (by omega) (by omega)
    unfold runW at this
    rw [if_pos (by omega)] at this
    exact this)]
  dsimp only
  rw [sortP_chC (by omega)]
  refine Prod.ext rfl (Prod.ext ?_ rfl)
  dsimp only
  omega
theorem solve_C_no {n cut : Nat} (hn : n ≤ 25) (hc : cut < n) : solveT (stT n) topP (poolC cut n) 100 = (ch0, (cut : Int) + 1, 12) := by
  rw [solveT_of (r := topR) (t := ccP) (ts := []) (n := cut + 1) (res := (.clash, 99 - cut)) (rec_top hn) (fits_cc hn) (by decide) (by
    have := meet_no hn hc cut 0 99 (by omega) (by omega)
    unfold runW at this
    rw [if_pos (by omega)] at this
    exact this)]
  refine Prod.ext rfl (Prod.ext ?_ rfl)
  dsimp only
  omega
end Go.Proofs.Ytnbeklmjinnbaaa
