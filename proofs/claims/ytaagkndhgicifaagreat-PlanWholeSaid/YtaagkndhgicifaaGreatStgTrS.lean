/- DERIVED. What the stages of a stock say: each choice holds for what stands below, what is left has none, the least set; more recipes take nothing away. No program in sight. -/
import Derived.Test.YtaagkndhgicifaaGreatSw2
import Derived.Test.YtaagkndhgicifaaGreatSolLawM
namespace Go.Proofs.YtaagkndhgicifaaGreat
set_option linter.unusedVariables false
theorem fails_miss {st : St} {p : Pk} {pool : List Pk} (h : Fails st p pool) (hr : st.rec? p ≠ none) : ∀ C, holdsB st p pool C = false := by
 obtain ⟨lf, c, n, e, h1, h2, h3⟩ := h
 obtain ⟨-, -, -, h4, h5⟩ := solveT_nums h1
 obtain rfl : e = 12 := by
  rcases h4 with h4 | h4 | h4 | h4
  ·exact absurd h4 h2
  ·exact h4
  ·exact absurd (h5.1 h4) hr
  ·exact absurd h4 h3
 exact (solve_misses h1).2
theorem FixR.misses {st : St} {L : List Ent} {l : List Pk} (h : FixR st 1 (seeds0 st) (less0 st) L l) {p : Pk} (hp : p ∈ l) : st.has p = true ∧ st.isSeed p = false ∧ p ∉ L.map Ent.pkg ∧ (∀ C, holdsB st p (L.map Ent.pkg) C = false) ∧ ∀ left c n e, solveT st p (L.map Ent.pkg) left = (c, n, e) → e = 12 ∨ e = 60 := by
 obtain ⟨h1, last, h2, h3, h4⟩ := h.left p hp
 obtain ⟨r1, r2, r3⟩ := less0_rec h1
 have hm : ∀ C, holdsB st p (L.map Ent.pkg) C = false := by
  have := fails_miss (h4 last h2 (Int.le_refl _)) r3
  rwa [poolE_all h3] at this
 refine ⟨r1, r2, fun hm => ?_, hm, fun left c n e hs => ?_⟩
 ·exact (List.nodup_append.1 h.nodup).2.2 p hm p hp rfl
 ·obtain ⟨-, -, -, g4, g5⟩ := solveT_nums hs
  rcases g4 with rfl | rfl | rfl | rfl
  ·have := (solve_holds hs).1
   rw [hm] at this
   cases this
  ·exact .inl rfl
  ·exact absurd (g5.1 rfl) r3
  ·exact .inr rfl
end Go.Proofs.YtaagkndhgicifaaGreat
