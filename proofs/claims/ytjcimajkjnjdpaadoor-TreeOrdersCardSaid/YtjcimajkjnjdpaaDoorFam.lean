/- DERIVED. A region that draws its order, walked once in the order of the text, in a family of worlds that the calls stay in. No program in sight. -/
import Derived.Test.YtjcimajkjnjdpaaDoorMem
import Derived.Deep.QuietTactic
import Derived.BigQuiet
namespace Go.Proofs.YtjcimajkjnjdpaaDoor
open Go.RowKit

theorem wp_region_fam {P : Program} {id : Nat} {Q : Exit → Act → World → Prop} {a : Act} {w : World} {l : List Oper} {ι : Type} (F : ι → World) (n0 : ι) (h0 : F n0 = { w with drawn := w.drawn + 1 }) (hm : P.follows .mixedOrders = true) (hB : Region.lexB .any l.toArray = true)
    (h : wpQuiet P l.toArray (fun w' => ∃ n, w' = F n) (fun a' => ∀ w', (∃ n, w' = F n) → Q .normal a' w') l a) : (Code.region id l.toArray true).wp P Q a w :=
  wp_region_quiet (C := fun w' => ∃ n, w' = F n) hm hB ⟨n0, h0.symm⟩ (by simpa using h)
/-- The worlds that keep all that was there. -/
theorem below_fam (w : World) : ∃ (ι : Type) (F : ι → World), (∀ k, ∃ n0, F n0 = w.drewN k) ∧ (∀ n, Below w.heap.size w (F n)) ∧ ∀ w', Below w.heap.size w w' → ∃ m, w' = F m :=
  ⟨{ w' : World // Below w.heap.size w w' }, Subtype.val, fun k => ⟨⟨w.drewN k, ⟨rfl, rfl, rfl, Nat.le_refl _, fun _ _ => rfl⟩⟩, rfl⟩, fun n => n.2, fun w' h => ⟨⟨w', h⟩, rfl⟩⟩
/-- A call that only makes memory stays in that family. -/
theorem calls_fam {P : Program} {f : FuncId} {args : Array Value} {v : Value} {w : World} {ι : Type} {F : ι → World} (hF : ∀ n, Below w.heap.size w (F n)) (hG : ∀ w', Below w.heap.size w w' → ∃ m, w' = F m)
    (h : ∀ W, Below w.heap.size w W → Calls P f args W (fun e w' => e = .returned v ∧ Below W.heap.size W w')) : ∀ n, Calls P f args (F n) (fun e w' => e = .returned v ∧ ∃ m, w' = F m) :=
  fun n => (h _ (hF n)).mono fun _ _ ⟨h1, h2⟩ => ⟨h1, hG _ ((hF n).trans (h2.mono (hF n).size))⟩
end Go.Proofs.YtjcimajkjnjdpaaDoor
