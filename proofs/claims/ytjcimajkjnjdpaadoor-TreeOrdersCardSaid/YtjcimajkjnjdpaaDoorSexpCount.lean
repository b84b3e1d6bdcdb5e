/- DERIVED. Sizes of nodes (for seats without saplinglaw01). -/
import Derived.Test.YtjcimajkjnjdpaaDoorSexpNode
import Derived.Deep.WholeRow
namespace Go.Proofs.YtjcimajkjnjdpaaDoor
open Go.RowKit
set_option linter.unusedVariables false

theorem kid_size {l : Bool} {a : List UInt8} {ks : List T} {k : T} (h : k ∈ ks) : SizeOf.sizeOf k < SizeOf.sizeOf (T.mk l a ks) := by
  have := List.sizeOf_lt_of_mem h
  simp; omega
theorem box_cells (w : World) (v0 v1 v2 : Value) : (w.alloc (.cells #[v0, v1, v2] 53)).cell? ⟨w.heap.size, 0, none⟩ = some v0 ∧ (w.alloc (.cells #[v0, v1, v2] 53)).cell? ⟨w.heap.size, 1, none⟩ = some v1 ∧ (w.alloc (.cells #[v0, v1, v2] 53)).cell? ⟨w.heap.size, 2, none⟩ = some v2 := by
  have h := cell_of_heap (heap_alloc_new w (.cells #[v0, v1, v2] 53))
  exact ⟨by rw [h]; rfl, by rw [h]; rfl, by rw [h]; rfl⟩
end Go.Proofs.YtjcimajkjnjdpaaDoor
