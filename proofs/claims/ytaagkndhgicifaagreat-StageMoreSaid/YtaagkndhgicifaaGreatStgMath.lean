/- DERIVED. The stages of a stock, as a plain function: rounds over what is not built yet. No program in sight. -/
import Derived.Test.YtaagkndhgicifaaGreatSolLaw
namespace Go.Proofs.YtaagkndhgicifaaGreat
set_option linter.unusedVariables false

/-- An entry: a package, its stage, its choice. -/
structure Ent where
  pkg : Pk
  stage : Int
  choice : Ch5
/-- A round: decisions so far, what is built in it, what is left over; none: the decisions ran out. -/
noncomputable def roundT (st : St) (pool : List Pk) (left stage : Int) : List Pk → Int → Option (Int × List Ent × List Pk)
  | [], made => some (made, [], [])
  | p :: ps, made => match solveT st p pool (max left 0 - made) with
    | (c, n, e) => if e = 60 then none else match roundT st pool left stage ps (made + n) with
      | none => none
      | some (m, es, less) => if e = 0 then some (m, ⟨p, stage, c⟩ :: es, less) else some (m, es, p :: less)
/-- All rounds; the first number is the fuel. -/
noncomputable def fixF (st : St) (left : Int) : Nat → Int → Int → List Ent → List Pk → Option (List Ent × List Pk × Int)
  | 0, _, _, _, _ => none
  | f + 1, stage, made, list, less => match roundT st (list.map Ent.pkg) left stage less made with
    | none => none
    | some (m, es, l2) => if es = [] then some (list, l2, m) else fixF st left f (stage + 1) m (list ++ es) l2
theorem roundT_len {st : St} {pool : List Pk} {left stage : Int} : ∀ (ps : List Pk) (made m : Int) (es : List Ent) (l2 : List Pk), roundT st pool left stage ps made = some (m, es, l2) → es.length + l2.length = ps.length
  | [], made, m, es, l2, h => by
    unfold roundT at h
    have := Option.some.inj h
    injection this with h1 h2
    injection h2 with h2 h3
    subst h2 h3
    rfl
  | p :: ps, made, m, es, l2, h => by
    unfold roundT at h
    split at h
    rename_i c n e hs
    split at h
    · cases h
    · cases hr : roundT st pool left stage ps (made + n) with
      | none => rw [hr] at h; cases h
      | some x =>
        obtain ⟨m2, es2, l3⟩ := x
        rw [hr] at h
        have ih := roundT_len ps _ _ _ _ hr
        dsimp only at h
        split at h
        · have := Option.some.inj h
          injection this with h1 h2
          injection h2 with h2 h3
          subst h2 h3
          simp only [List.length_cons]
          omega
        · have := Option.some.inj h
          injection this with h1 h2
          injection h2 with h2 h3
          subst h2 h3
          simp only [List.length_cons]
          omega
/-- What a round builds was solved over its pool; what it leaves was not. -/
theorem roundT_mem {st : St} {pool : List Pk} {left stage : Int} : ∀ (ps : List Pk) (made m : Int) (es : List Ent) (l2 : List Pk), roundT st pool left stage ps made = some (m, es, l2) →
    (∀ x ∈ es, x.pkg ∈ ps ∧ x.stage = stage ∧ ∃ lf n, solveT st x.pkg pool lf = (x.choice, n, 0)) ∧ (∀ q ∈ l2, q ∈ ps ∧ ∃ lf c n e, solveT st q pool lf = (c, n, e) ∧ e ≠ 0 ∧ e ≠ 60)
  | [], made, m, es, l2, h => by
    unfold roundT at h
    have := Option.some.inj h
    injection this with h1 h2
    injection h2 with h2 h3
    subst h2 h3
    exact ⟨fun x hx => (by cases hx), fun q hq => (by cases hq)⟩
  | p :: ps, made, m, es, l2, h => by
    unfold roundT at h
    split at h
    rename_i c n e hs
    split at h
    · cases h
    · rename_i h60
      cases hr : roundT st pool left stage ps (made + n) with
      | none => rw [hr] at h; cases h
      | some x =>
        obtain ⟨m2, es2, l3⟩ := x
        rw [hr] at h
        obtain ⟨i1, i2⟩ := roundT_mem ps _ _ _ _ hr
        dsimp only at h
        split at h
        · rename_i h0
          have := Option.some.inj h
          injection this with h1 h2
          injection h2 with h2 h3
          subst h2 h3
          refine ⟨fun x hx => ?_, fun q hq => ⟨List.mem_cons_of_mem _ (i2 q hq).1, (i2 q hq).2⟩⟩
          rcases List.mem_cons.1 hx with rfl | hx
          · exact ⟨List.mem_cons_self .., rfl, _, n, by rw [hs, h0]⟩
          · exact ⟨List.mem_cons_of_mem _ (i1 x hx).1, (i1 x hx).2⟩
        · rename_i h0
          have := Option.some.inj h
          injection this with h1 h2
          injection h2 with h2 h3
          subst h2 h3
          refine ⟨fun x hx => ⟨List.mem_cons_of_mem _ (i1 x hx).1, (i1 x hx).2⟩, fun q hq => ?_⟩
          rcases List.mem_cons.1 hq with rfl | hq
          · exact ⟨List.mem_cons_self .., _, c, n, e, hs, h0, h60⟩
          · exact ⟨List.mem_cons_of_mem _ (i2 q hq).1, (i2 q hq).2⟩
end Go.Proofs.YtaagkndhgicifaaGreat
