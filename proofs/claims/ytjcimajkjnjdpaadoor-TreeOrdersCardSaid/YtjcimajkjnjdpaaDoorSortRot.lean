/- DERIVED. The rotation's plain law: what each of its swaps leaves to be turned. -/
import Derived.Test.YtjcimajkjnjdpaaDoorSortSwap
namespace Go.Proofs.YtjcimajkjnjdpaaDoor
open Go.RowKit
set_option linter.unusedVariables false

def swI (a b n k : Nat) : Nat := if a ≤ k ∧ k < a + n then k - a + b else if b ≤ k ∧ k < b + n then k - b + a else k
/-- Where, behind a turn of [a, b) around m, what stands at k came from. -/
def rotI (a m b k : Nat) : Nat := if a ≤ k ∧ k < a + (b - m) then k - a + m else if a + (b - m) ≤ k ∧ k < b then k - (b - m) else k
theorem SwR.at {qs ps : List Pr} {a b n : Nat} (h : SwR qs ps a b n) (k : Nat) : qs[k]? = ps[swI a b n k]? := by
  rw [h.2 k]
  unfold swI
  split
  · rfl
  · split <;> rfl
def RotR (qs ps : List Pr) (a m b : Nat) : Prop := qs.Perm ps ∧ ∀ k, qs[k]? = ps[rotI a m b k]?
theorem rot_left {i j m k : Nat} (hj : 1 ≤ j) (hij : j < i) (hi : i ≤ m) : swI (m - i) m j (rotI (m - (i - j)) m (m + j) k) = rotI (m - i) m (m + j) k := by
  unfold swI rotI
  repeat' split
  all_goals omega
theorem rot_right {i j m k : Nat} (hi1 : 1 ≤ i) (hij : i < j) (hi : i ≤ m) : swI (m - i) (m + j - i) i (rotI (m - i) m (m + (j - i)) k) = rotI (m - i) m (m + j) k := by
  unfold swI rotI
  repeat' split
  all_goals omega
theorem rot_same {i m k : Nat} (hi1 : 1 ≤ i) (hi : i ≤ m) : swI (m - i) m i k = rotI (m - i) m (m + i) k := by
  unfold swI rotI
  repeat' split
  all_goals omega
theorem RotR.left {rs qs ps : List Pr} {i j m : Nat} (h : RotR rs qs (m - (i - j)) m (m + j)) (hs : SwR qs ps (m - i) m j) (hj : 1 ≤ j) (hij : j < i) (hi : i ≤ m) : RotR rs ps (m - i) m (m + j) :=
  ⟨h.1.trans hs.1, fun k => by rw [h.2 k, hs.at, rot_left hj hij hi]⟩
theorem RotR.right {rs qs ps : List Pr} {i j m : Nat} (h : RotR rs qs (m - i) m (m + (j - i))) (hs : SwR qs ps (m - i) (m + j - i) i) (hi1 : 1 ≤ i) (hij : i < j) (hi : i ≤ m) : RotR rs ps (m - i) m (m + j) :=
  ⟨h.1.trans hs.1, fun k => by rw [h.2 k, hs.at, rot_right hi1 hij hi]⟩
theorem RotR.same {qs ps : List Pr} {i m : Nat} (hs : SwR qs ps (m - i) m i) (hi1 : 1 ≤ i) (hi : i ≤ m) : RotR qs ps (m - i) m (m + i) :=
  ⟨hs.1, fun k => by rw [hs.at, rot_same hi1 hi]⟩
end Go.Proofs.YtjcimajkjnjdpaaDoor
