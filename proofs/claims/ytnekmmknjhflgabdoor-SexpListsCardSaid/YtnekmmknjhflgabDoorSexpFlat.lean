/- DERIVED. What Decode answers, in one form. -/
import Derived.Test.YtnekmmknjhflgabDoorSexpAlive
namespace Go.Proofs.YtnekmmknjhflgabDoor
open Go.RowKit
set_option linter.unusedVariables false

/-- The node and the fault that Decode answers. -/
def decP : Except Int T → T × Int
  | .ok t => (t, 0)
  | .error f => (.mk false [] [], f)
theorem NodeAt.zero (w : World) : NodeAt w (.mk false [] []) (.bool false) (.string ⟨#[]⟩) (.slice none 0 0) := by
  unfold NodeAt
  exact ⟨rfl, rfl, Nat.zero_le _, Nat.zero_le _, none, 0, rfl, Nat.le_refl _, Nat.zero_le _, fun _ => rfl, .inl rfl⟩
/-- What Decode answers, in one form. -/
def FlatTo (w : World) (X : Except Int T) (e : Ending) (w' : World) : Prop :=
  ∃ l sx a n c, e = .returned (.tuple #[.agg #[.bool l, .string sx, .slice a n c], .int .i64 (decP X).2]) ∧ NodeAt w' (decP X).1 (.bool l) (.string sx) (.slice a n c) ∧ Below w.heap.size w w'
theorem DecTo.flat {w w' : World} {X : Except Int T} {e : Ending} (h : DecTo w X e w') : FlatTo w X e w' := by
  cases X with
  | error f =>
    obtain ⟨rfl, hb⟩ := h
    exact ⟨_, _, _, _, _, rfl, NodeAt.zero w', hb⟩
  | ok t =>
    obtain ⟨v0, v1, v2, G, rfl, hb, hm⟩ := h
    obtain ⟨l, sx, a, n, c, rfl, rfl, rfl⟩ := hm.node.form
    exact ⟨l, sx, a, n, c, rfl, hm.node.at, hb⟩
theorem decf_any (w : World) (S : ByteArray) (hS : S.size ≤ 140737488351232) (ht : Tab w) : Calls Tryd.prog 8 #[.string S] w (FlatTo w (decT S.data.toList)) := (dec_any w S hS ht).mono fun _ _ h => h.flat
theorem decT_errs {s : List UInt8} {f : Int} (h : decT s = .error f) : f = 3 ∨ f = 4 ∨ f = 5 := by
  unfold decT at h
  split at h
  · exact .inl (Except.error.inj h).symm
  · split at h
    · rename_i e he
      rw [← Except.error.inj h]
      exact .inr (takeT_errs _ _ _ he)
    · cases h
    · exact .inr (.inr (Except.error.inj h).symm)
theorem encT_len (t : T) : (encT t).1.length ≤ 65536 := by
  unfold encT
  cases hp : putT 0 [] t with
  | error e => exact Nat.zero_le _
  | ok c => exact putT_len t _ _ _ hp
end Go.Proofs.YtnekmmknjhflgabDoor
