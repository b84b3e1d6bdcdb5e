/- DERIVED. Reading an atom with at most 5 digits, in plain words. -/
import Derived.Test.YtjcimajkjnjdpabGreatDoorSexpParse
namespace Go.Proofs.YtjcimajkjnjdpabGreatDoor
open Go.RowKit
set_option linter.unusedVariables false

/-- The digits that are read: at most m. -/
theorem digits_ofm (s : List UInt8) : ∀ m : Nat, ∃ j, j ≤ m ∧ j ≤ s.length ∧ (∀ (i : Nat), i < j → ∃ c, s[i]? = some c ∧ isDig c = true) ∧ (j = m ∨ j = s.length ∨ ∃ c, s[j]? = some c ∧ isDig c = false) := by
  intro m
  induction m with
  | zero => exact ⟨0, Nat.le_refl _, Nat.zero_le _, fun i hi => by omega, .inl rfl⟩
  | succ m ih =>
    obtain ⟨j, h1, h2, h3, h4⟩ := ih
    rcases h4 with rfl | h4 | h4
    · by_cases hl : j < s.length
      · obtain ⟨c, hc⟩ : ∃ c, s[j]? = some c := ⟨_, List.getElem?_eq_getElem hl⟩
        cases hd : isDig c
        · exact ⟨j, by omega, h2, h3, .inr (.inr ⟨c, hc, hd⟩)⟩
        · refine ⟨j + 1, Nat.le_refl _, hl, fun i hi => ?_, .inl rfl⟩
          by_cases hij : i = j
          · subst hij; exact ⟨c, hc, hd⟩
          · exact h3 i (by omega)
      · exact ⟨j, by omega, h2, h3, .inr (.inl (by omega))⟩
    · exact ⟨j, by omega, h2, h3, .inr (.inl h4)⟩
    · exact ⟨j, by omega, h2, h3, .inr (.inr h4)⟩
theorem textT_bad5 {s : List UInt8} {j : Nat} (hj5 : j ≤ 5) (hjl : j ≤ s.length) (hd : ∀ (i : Nat), i < j → ∃ c, s[i]? = some c ∧ isDig c = true) (hs : j = 5 ∨ j = s.length ∨ ∃ c, s[j]? = some c ∧ isDig c = false)
    (h : j = 0 ∨ (s.head? = some 48 ∧ 1 < j) ∨ j = s.length ∨ (∃ c, s[j]? = some c ∧ c ≠ 58) ∨ s.length - j - 1 < decVal (s.take j)) : textT s = .error 5 := by
  refine textT_err fun r h1 h2 h3 h4 h5 => ?_
  have hge := tw_ge hd
  have htw : s.takeWhile isDig = s.take j := by
    refine tw_of hd ?_
    rcases hs with hs | hs
    · by_cases hl : j < s.length
      · right
        obtain ⟨c, hc⟩ : ∃ c, s[j]? = some c := ⟨_, List.getElem?_eq_getElem hl⟩
        refine ⟨c, hc, ?_⟩
        cases hdc : isDig c
        · rfl
        · exfalso
          have := tw_ge (s := s) (j := j + 1) (fun i hi => by
            by_cases hij : i = j
            · subst hij; exact ⟨c, hc, hdc⟩
            · exact hd i (by omega))
          omega
      · left; omega
    · exact hs
  rw [htw] at h1 h2 h3 h4 h5
  rw [List.length_take, Nat.min_eq_left hjl] at h1 h3 h4
  have hj0 : j ≠ 0 := by rintro rfl; exact h2 (by simp)
  rcases h with h | ⟨ha, hb⟩ | h | ⟨c, hc, h⟩ | h
  · exact hj0 h
  · rcases h4 with h4 | h4
    · exact h4 ha
    · omega
  · rw [List.drop_of_length_le (by omega)] at h1; cases h1
  · have := List.drop_eq_getElem_cons (l := s) (i := j) (by obtain ⟨hi, _⟩ := List.getElem?_eq_some_iff.1 hc; exact hi)
    rw [this] at h1
    have h6 := (List.cons.inj h1).1
    obtain ⟨hi, h7⟩ := List.getElem?_eq_some_iff.1 hc
    exact h (h7.symm.trans h6)
  · have h6 := congrArg List.length h1
    rw [List.length_drop] at h6
    simp at h6
    omega
theorem textT_good5 {s : List UInt8} {j : Nat} (hj5 : j ≤ 5) (hd : ∀ (i : Nat), i < j → ∃ c, s[i]? = some c ∧ isDig c = true) (h0 : j ≠ 0) (h1 : s.head? ≠ some 48 ∨ j = 1) (h2 : s[j]? = some 58) (h3 : decVal (s.take j) ≤ s.length - j - 1) :
    textT s = .ok (.mk true ((s.drop (j + 1)).take (decVal (s.take j))) [], s.drop (j + 1 + decVal (s.take j))) := by
  have htw : s.takeWhile isDig = s.take j := tw_of hd (.inr ⟨58, h2, rfl⟩)
  obtain ⟨hi, hc⟩ := List.getElem?_eq_some_iff.1 h2
  have hlj : (s.take j).length = j := by rw [List.length_take]; omega
  have hne : s.take j ≠ [] := by intro h; rw [h] at hlj; simp at hlj; omega
  unfold textT
  rw [htw, hlj, List.drop_eq_getElem_cons hi]
  dsimp only
  rw [if_pos ⟨hc, hne, hj5, h1, by rw [List.length_drop]; omega⟩, List.drop_drop]
end Go.Proofs.YtjcimajkjnjdpabGreatDoor
