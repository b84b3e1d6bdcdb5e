/- DERIVED. What the laws of Solve share. (Printed by a program.) -/
import Derived.Test.YtnbeklmjinnbaaaGreatSolBeg
import Derived.Test.YtnbeklmjinnbaaaGreatRSolve
namespace Go.Proofs.YtnbeklmjinnbaaaGreat
open Go.RowKit Go.Shelf
set_option linter.unusedVariables false
set_option linter.unusedSimpArgs false
set_option maxRecDepth 100000

theorem CallsAt.below {w w' : World} {v : Value} {cs : List Cl} (h : CallsAt w v cs) (hb : Below w.heap.size w w') : CallsAt w' v cs := by
  obtain ⟨a, c, h1, h2, h3, h4⟩ := h
  refine ⟨a, c, h1, h2, h3, fun hne => ?_⟩
  obtain ⟨b, o, e, hl, hc⟩ := h4 hne
  refine ⟨b, o, e, Nat.lt_of_lt_of_le hl hb.size, fun i x hi => ?_⟩
  obtain ⟨vs, ⟨vr, e1, e2, e3⟩, h5⟩ := hc i x hi
  exact ⟨vs, ⟨vr, e1, e2, e3.below hb⟩, fun j u hj => below_keeps hb _ _ (h5 j u hj)⟩
theorem CaseAt.below {w w' : World} {cs : List Value} {x : Cs} (h : CaseAt w cs x) (hb : Below w.heap.size w w') : CaseAt w' cs x := by
  obtain ⟨v0, v1, v2, e, h1, h2, h3, h4, h5, h6⟩ := h
  exact ⟨v0, v1, v2, e, h1.below hb, h2, h3.below hb, h4.below hb, h5, h6⟩
theorem Two.solve {w w' : World} {B : Nat} {vm : Value} {st : St} (h : Two w w' B vm st) {Z : Zone} {vp : Value} {pool : List Pk} (hp : PkgsAt Z w' vp pool) (p : Pk) (left : Int) (hl : left ≤ 2000) :
    Calls Tryz.prog 10 #[.pointer (some ⟨B, 0, none⟩), .agg #[strV p.1, .int .i64 p.2.1, .int .i64 p.2.2.1, .int .i64 p.2.2.2], vp, .int .i64 left] w' (SolveP w' (solveT st p pool left)) := by
  obtain ⟨F, h1, -, -⟩ := h.own
  exact solve_any w' B F st h1 p vp Z pool hp left hl
theorem Two.rsolve {w w' : World} {B : Nat} {vm : Value} {st : St} (h : Two w w' B vm st) {vp : Value} {Z : Zone} {pool : List Pk} (hp : PkgsAt Z w' vp pool) (p : Pk) (left : Int) (hl : left ≤ 2000) :
    Calls Tryz.prog 11 #[vm, .agg #[strV p.1, .int .i64 p.2.1, .int .i64 p.2.2.1, .int .i64 p.2.2.2], vp, .int .i64 left] w' (RSolveP w' (solveT st p pool left)) :=
  rsolve_any w' vm st h.ref (by have := h.few; omega) (by have := h.few; omega) h.good p vp pool (hp.keep ⟨fun _ _ _ => trivial, Nat.le_refl _, fun _ _ _ h => h⟩) left hl
theorem PkRow.all {base : Nat} {w : World} {v : Value} {L : List Pk} (h : PkRow base w v L) (hm : L.length ≤ 8796093022208) : PkgsAt zAll w v L := (h.at hm).keep ⟨fun _ _ _ => trivial, Nat.le_refl _, fun _ _ _ h => h⟩
/-- Solve's answer, by its cells. -/
theorem SolveP.shape {w w' : World} {t : Pk} {c : List Pk} {m e0 : Int} {e : Ending} (h : SolveP w ((t, c), m, e0) e w') : ∃ (s : ByteArray) (a : Option Addr) (n k : Nat), n = c.length ∧ strV t.1 = .string s ∧
    e = .returned (.tuple #[.agg #[.string s, .int .i64 t.2.1, .int .i64 t.2.2.1, .int .i64 t.2.2.2, .slice a n k], .int .i64 m, .int .i64 e0]) ∧ ownsC w' w.heap.size 26 4 (.slice a n k) c.length (c.flatMap pkL) ∧ Below w.heap.size w w' := by
  obtain ⟨v, s, a, n, k, rfl, h1, h2, rfl, h3, h4⟩ := h
  exact ⟨s, a, n, k, h1, h2, rfl, h3, h4⟩
theorem RSolveP.shape {w w' : World} {t : Pk} {c : List Pk} {m e0 : Int} {e : Ending} (h : RSolveP w ((t, c), m, e0) e w') : ∃ (s : ByteArray) (a : Option Addr) (n k : Nat), n = c.length ∧ strV t.1 = .string s ∧
    e = .returned (.tuple #[.agg #[.string s, .int .i64 t.2.1, .int .i64 t.2.2.1, .int .i64 t.2.2.2, .slice a n k], .int .i64 m, .int .i64 e0]) ∧ PkgsAt zAll w' (.slice a n k) c ∧ Below w.heap.size w w' := by
  obtain ⟨h4, s, a, k, h2, rfl, h3⟩ := h
  exact ⟨s, a, _, k, rfl, h2, rfl, h3, h4⟩
theorem solveT_len {st : St} {p : Pk} {pool : List Pk} {left : Int} (hl : left ≤ 2000) : (solveT st p pool left).1.2.length ≤ 2000 := by
  obtain ⟨⟨c, n, e⟩, h⟩ : ∃ r, solveT st p pool left = r := ⟨_, rfl⟩
  rw [h]
  by_cases he : e = 0
  · subst he
    have h1 := (solve_holds h).2.2
    dsimp only
    omega
  · rw [(solve_bad h he).1]
    simp [ch0]
end Go.Proofs.YtnbeklmjinnbaaaGreat
