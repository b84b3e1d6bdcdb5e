/- DERIVED. What a plan says: plain laws. No program in sight. -/
import Derived.Test.YtaagkndhgicifaaGreatPlnMath
namespace Go.Proofs.YtaagkndhgicifaaGreat
set_option linter.unusedVariables false
theorem planT_none {st : St} {p : Pk} {left : Int} (h : st.has p = false) : planT st p left = ([], [], 14) := by unfold planT; rw [if_pos h]
theorem planT_out {st : St} {p : Pk} {left : Int} (h : st.has p = true) (hf : fixT st left = none) : planT st p left = ([], [], 60) := by
 unfold planT; rw [if_neg (by rw [h]; decide), hf]
theorem planT_less {st : St} {p : Pk} {left m : Int} {L : List Ent} {l : List Pk} (h : st.has p = true) (hf : fixT st left = some (L, l, m)) (hp : p ∉ L.map Ent.pkg) : planT st p left = ([], l, 61) := by
 unfold planT; rw [if_neg (by rw [h]; decide), hf]; exact if_neg hp
theorem planT_need {st : St} {p : Pk} {left m : Int} {L : List Ent} {l : List Pk} (h : st.has p = true) (hf : fixT st left = some (L, l, m)) (hp : p ∈ L.map Ent.pkg) : planT st p left = (needT L p, [], 0) := by
 unfold planT; rw [if_neg (by rw [h]; decide), hf]; exact if_pos hp
theorem planT_cases (st : St) (p : Pk) (left : Int) : (st.has p = false ∧ planT st p left = ([], [], 14)) ∨ (st.has p = true ∧ fixT st left = none ∧ planT st p left = ([], [], 60)) ∨
  (∃ L l m, st.has p = true ∧ fixT st left = some (L, l, m) ∧ p ∉ L.map Ent.pkg ∧ planT st p left = ([], l, 61)) ∨ ∃ L l m, st.has p = true ∧ fixT st left = some (L, l, m) ∧ p ∈ L.map Ent.pkg ∧ planT st p left = (needT L p, [], 0) := by
 cases h : st.has p with
 | false => exact .inl ⟨rfl, planT_none h⟩
 | true =>
  cases hf : fixT st left with
  | none => exact .inr (.inl ⟨rfl, rfl, planT_out h hf⟩)
  | some r =>
   obtain ⟨L, l, m⟩ := r
   by_cases hp : p ∈ L.map Ent.pkg
   ·exact .inr (.inr (.inr ⟨L, l, m, rfl, rfl, hp, planT_need h hf hp⟩))
   ·exact .inr (.inr (.inl ⟨L, l, m, rfl, rfl, hp, planT_less h hf hp⟩))
section
variable {st : St} {left m : Int} {L : List Ent} {l : List Pk} {p : Pk}
end
end Go.Proofs.YtaagkndhgicifaaGreat
