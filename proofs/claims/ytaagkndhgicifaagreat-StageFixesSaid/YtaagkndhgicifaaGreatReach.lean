/- DERIVED. The form's reach, argument by argument. -/
import Derived.SizedLaws
import Derived.Deep.Slices
import Derived.ProofKit
namespace Go.Proofs.YtaagkndhgicifaaGreat
open Go.RowKit Go.ChangeShapes Go.WideShapes
theorem reach_slice {H : Type} {enc : TypeId × Value → H} {P : Program} {W : World} {ts : List TypeId} {ds : List (DataW H)} (h : (DataW.weightsEach P ts ds).all (· ≤ reachBytes) = true) {j : Nat} {t e : TypeId} {d : DataW H} (ht : ts[j]? = some t) (hd : ds[j]? = some d)
  (hu : P.underlying t = some (.slice e)) {a : Option Addr} {len cap : Nat} {p : List MemPlace} (hr : DataW.Trod enc P W 0 (fun _ => true) true t (.slice a len cap) d p) : len ≤ cap ∧ cap ≤ maxLen ∧ cap * P.bytesOf e ≤ 140737488351232 ∧ (a = none → cap = 0) := by
 obtain ⟨fuel, hf⟩ := hr
 rcases Go.Deep.open_slice hu hf with ⟨hcs, _⟩ | ⟨x, len', cap', m, n, D, Pl, hcs, _, hl, hm, hmm, hx, _⟩
 ·simp [Value.cells] at hcs
  obtain ⟨rfl, rfl, rfl⟩ := hcs
  exact ⟨Nat.le_refl _, Nat.zero_le _, by rw [Nat.zero_mul]; exact Nat.zero_le _, fun _ => rfl⟩
 ·simp [Value.cells] at hcs
  obtain ⟨rfl, rfl, rfl⟩ := hcs
  simp only [if_true] at hmm
  subst hmm
  have hdd := (Prod.mk.inj hx).1
  have := sized_slice h ht (hd.trans (congrArg some hdd)) hu
  simp only [List.length_map, List.length_range] at this
  rw [show len + (m - len) = m from by omega] at this
  exact ⟨hl, hm, this, fun h => (Option.some_ne_none _ h).elim⟩
end Go.Proofs.YtaagkndhgicifaaGreat
