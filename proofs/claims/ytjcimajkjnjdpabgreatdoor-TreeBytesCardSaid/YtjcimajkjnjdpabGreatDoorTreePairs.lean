/- DERIVED. Pairs of texts as cells. -/
import Derived.Test.YtjcimajkjnjdpabGreatDoorMBase
namespace Go.Proofs.YtjcimajkjnjdpabGreatDoor
open Go.RowKit Go.ChangeShapes Go.WideShapes
set_option linter.unusedVariables false

def pairV (p : Pr) : List Value := [strV p.1, strV p.2]
def pairsV (ps : List Pr) : List Value := ps.flatMap pairV
theorem pairsV_length (ps : List Pr) : (pairsV ps).length = ps.length * 2 := by
  induction ps with
  | nil => rfl
  | cons p ps ih => simp only [pairsV, List.flatMap_cons, List.length_append, List.length_cons] at ih ⊢; simp only [pairV, List.length_cons, List.length_nil]; omega
theorem pairsV_one (ps : List Pr) : ∀ u ∈ pairsV ps, u.oneCell' = true := by
  intro u hu
  obtain ⟨p, _, hp⟩ := List.mem_flatMap.1 hu
  simp [pairV] at hp
  rcases hp with rfl | rfl <;> rfl
theorem pairsV_append (ps qs : List Pr) : pairsV (ps ++ qs) = pairsV ps ++ pairsV qs := by simp [pairsV]
theorem pairsV_take (ps : List Pr) (i : Nat) : pairsV (ps.take i) = (pairsV ps).take (i * 2) := by
  induction ps generalizing i with
  | nil => simp [pairsV]
  | cons p ps ih =>
    cases i with
    | zero => simp [pairsV]
    | succ i =>
      rw [Nat.add_mul]
      simp only [pairsV, List.take_succ_cons, List.flatMap_cons, pairV, List.cons_append, List.nil_append] at ih ⊢
      rw [ih i]
theorem pairsV_drop (ps : List Pr) (i : Nat) : pairsV (ps.drop i) = (pairsV ps).drop (i * 2) := by
  induction ps generalizing i with
  | nil => simp [pairsV]
  | cons p ps ih =>
    cases i with
    | zero => simp [pairsV]
    | succ i =>
      rw [Nat.add_mul]
      simp only [pairsV, List.drop_succ_cons, List.flatMap_cons, pairV, List.cons_append, List.nil_append] at ih ⊢
      rw [ih i]
theorem pairsV_at (ps : List Pr) (i : Nat) (p : Pr) (h : ps[i]? = some p) : (pairsV ps)[i * 2]? = some (strV p.1) ∧ (pairsV ps)[i * 2 + 1]? = some (strV p.2) := by
  have hd : (pairsV ps).drop (i * 2) = strV p.1 :: strV p.2 :: pairsV (ps.drop (i + 1)) := by
    rw [← pairsV_drop, List.drop_eq_getElem_cons (List.getElem?_eq_some_iff.1 h).1, (List.getElem?_eq_some_iff.1 h).2]
    rfl
  have h0 : ((pairsV ps).drop (i * 2))[0]? = some (strV p.1) := by rw [hd]; rfl
  have h1 : ((pairsV ps).drop (i * 2))[1]? = some (strV p.2) := by rw [hd]; rfl
  rw [List.getElem?_drop] at h0 h1
  exact ⟨h0, h1⟩
end Go.Proofs.YtjcimajkjnjdpabGreatDoor
