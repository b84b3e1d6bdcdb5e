/- DERIVED. Files in a row, in place: byPath, the insertion sort. -/
import Derived.Test.YtjcimajkjnjdpaaDoorSortMath
import Derived.Test.YtjcimajkjnjdpaaDoorWordsA
import Derived.Test.YtjcimajkjnjdpaaDoorFam
import Derived.Test.YtjcimajkjnjdpaaDoorStd
import Derived.BigQuiet
import Derived.Deep.RegionLaw
namespace Go.Proofs.YtjcimajkjnjdpaaDoor
open Go.RowKit
set_option linter.unusedVariables false

/-- A row of files in a block, from its beginning. -/
def FlRow (w : World) (g : Nat) (ps : List Pr) : Prop := ∃ C T, w.heap[g]? = some (.cells C T (0, 0)) ∧ ∀ k p, ps[k]? = some p → C[k * 2]? = some (strV p.1) ∧ C[k * 2 + 1]? = some (strV p.2)
theorem FlRow.keep {w w' : World} {g : Nat} {ps : List Pr} (h : FlRow w g ps) (hk : w'.heap[g]? = w.heap[g]?) : FlRow w' g ps := by
  obtain ⟨C, T, h1, h2⟩ := h
  exact ⟨C, T, hk.trans h1, h2⟩
theorem FlRow.lt {w : World} {g : Nat} {ps : List Pr} (h : FlRow w g ps) : g < w.heap.size := by
  obtain ⟨C, T, h1, _⟩ := h
  exact lt_of_heap h1
theorem FlRow.cell {w : World} {g : Nat} {ps : List Pr} (h : FlRow w g ps) {k : Nat} {p : Pr} (hp : ps[k]? = some p) : w.cell? ⟨g, k * 2, none⟩ = some (strV p.1) ∧ w.cell? ⟨g, k * 2 + 1, none⟩ = some (strV p.2) := by
  obtain ⟨C, T, h1, h2⟩ := h
  exact ⟨(cell_of_heap h1 _).trans (h2 k p hp).1, (cell_of_heap h1 _).trans (h2 k p hp).2⟩
theorem FlRow.frozen {w : World} {g : Nat} {ps : List Pr} (h : FlRow w g ps) (i : Nat) : w.frozen? ⟨g, i, none⟩ = false := by
  obtain ⟨C, T, h1, _⟩ := h
  exact frozen_of_heap h1 i
theorem FlRow.put {w : World} {g : Nat} {ps : List Pr} (h : FlRow w g ps) {k : Nat} (hk : k < ps.length) (q : Pr) : FlRow ((w.setCell ⟨g, k * 2, none⟩ (strV q.1)).setCell ⟨g, k * 2 + 1, none⟩ (strV q.2)) g (ps.set k q) := by
  obtain ⟨C, T, h1, h2⟩ := h
  refine ⟨_, T, heap_setCell_here _ (heap_setCell_here _ h1), fun j p hj => ?_⟩
  obtain ⟨h3, h4⟩ := h2 k _ (List.getElem?_eq_getElem hk)
  have l1 : k * 2 < C.size := (Array.getElem?_eq_some_iff.1 h3).1
  have l2 : k * 2 + 1 < C.size := (Array.getElem?_eq_some_iff.1 h4).1
  rw [List.getElem?_set] at hj
  by_cases e : k = j
  · subst e
    rw [if_pos rfl, if_pos hk] at hj
    obtain rfl := Option.some.inj hj
    constructor
    · rw [Array.getElem?_setIfInBounds_ne (by omega), Array.getElem?_setIfInBounds_self_of_lt l1]
    · rw [Array.getElem?_setIfInBounds_self_of_lt (by simp; omega)]
  · rw [if_neg e] at hj
    obtain ⟨h5, h6⟩ := h2 j p hj
    constructor
    · rw [Array.getElem?_setIfInBounds_ne (by omega), Array.getElem?_setIfInBounds_ne (by omega)]; exact h5
    · rw [Array.getElem?_setIfInBounds_ne (by omega), Array.getElem?_setIfInBounds_ne (by omega)]; exact h6
set_option maxHeartbeats 1000000 in
theorem byPath_any (p q : Pr) (w : World) : Calls Tryd.prog 16 #[.agg #[strV p.1, strV p.2], .agg #[strV q.1, strV q.2]] w (fun e w' => e = .returned (.int .i64 (Lib.compareBytes p.1 q.1)) ∧ Below w.heap.size w w') := by
  have hC := fun W => Tryd.strings_Compare ⟨p.1.toArray⟩ ⟨q.1.toArray⟩ W
  rw [show (⟨p.1.toArray⟩ : ByteArray).data.toList = p.1 from rfl, show (⟨q.1.toArray⟩ : ByteArray).data.toList = q.1 from rfl] at hC
  unfold strV
  obtain ⟨A, hA⟩ : ∃ A : ByteArray, A = ⟨p.1.toArray⟩ := ⟨_, rfl⟩
  obtain ⟨B, hB⟩ : ∃ A : ByteArray, A = ⟨q.1.toArray⟩ := ⟨_, rfl⟩
  obtain ⟨A2, hA2⟩ : ∃ A : ByteArray, A = ⟨p.2.toArray⟩ := ⟨_, rfl⟩
  obtain ⟨B2, hB2⟩ : ∃ A : ByteArray, A = ⟨q.2.toArray⟩ := ⟨_, rfl⟩
  rw [← hA, ← hB] at hC ⊢
  rw [← hA2, ← hB2]
  obtain ⟨z, hz⟩ : ∃ z, z = Lib.compareBytes p.1 q.1 := ⟨_, rfl⟩
  rw [← hz] at hC ⊢
  have HC := Lib.hid hC
  have HB := Lib.hid (((Below.refl w.heap.size w).alloc (Nat.le_refl _) (.cells #[.string A, .string A2] 26)).alloc (by simp) (.cells #[.string B, .string B2] 26))
  clear hC hA hB hA2 hB2 hz
  go_enter Tryd.func16, Tryd.ntmps16
  go_wp2_with fail
  refine (HC.out _).mono ?_
  rintro e w2 ⟨rfl, rfl⟩
  go_wp2_with fail
  go_ret
  exact ⟨rfl, HB.out⟩
end Go.Proofs.YtjcimajkjnjdpaaDoor
