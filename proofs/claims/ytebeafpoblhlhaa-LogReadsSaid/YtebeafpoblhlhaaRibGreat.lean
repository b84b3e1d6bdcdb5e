/- DERIVED. The script of RibbonDoes; the walk of great. -/
import Derived.Test.YtebeafpoblhlhaaRibSafe
namespace Go.Proofs.Ytebeafpoblhlhaa
open Go.RowKit
set_option linter.unusedVariables false

/-- One call of a script. -/
structure CallD where
  kind : Int
  n : Int
  k : Int
  b : List UInt8
def RdCalls (w : World) (a : Option Addr) (ls : List CallD) : Prop :=
  ls ≠ [] → ∃ b o, a = some ⟨b, o, none⟩ ∧ ∀ i l, ls[i]? = some l → ∃ ai ci, w.cell? ⟨b, o + i * 4, none⟩ = some (.int .i64 l.kind) ∧ w.cell? ⟨b, o + i * 4 + 1, none⟩ = some (.int .i64 l.n) ∧ w.cell? ⟨b, o + i * 4 + 2, none⟩ = some (.int .i64 l.k) ∧
    w.cell? ⟨b, o + i * 4 + 3, none⟩ = some (.slice ai l.b.length ci) ∧ Rd w (.slice ai l.b.length ci) (bytesV l.b) ∧ l.b.length ≤ 140737488351232 ∧ l.n < 9223372036854775808
theorem RdCalls.below {w w' : World} {a : Option Addr} {ls : List CallD} (h : RdCalls w a ls) (hb : Below w.heap.size w w') : RdCalls w' a ls := by
  intro hne
  obtain ⟨b, o, h1, h2⟩ := h hne
  refine ⟨b, o, h1, fun i l hi => ?_⟩
  obtain ⟨ai, ci, h3, h4, h5, h6, h7, h8, h9⟩ := h2 i l hi
  exact ⟨ai, ci, below_keeps hb _ _ h3, below_keeps hb _ _ h4, below_keeps hb _ _ h5, below_keeps hb _ _ h6, h7.below hb, h8, h9⟩
def GreatTo (w : World) (n : Nat) (e : Ending) (w' : World) : Prop := ∃ g : Bool, e = .returned (.bool g) ∧ (g = false → n ≤ 60) ∧ Below w.heap.size w w'
set_option maxHeartbeats 1000000 in
theorem great_any (w : World) (aa : Option Addr) (ca lb : Nat) (a : Option Addr) (c : Nat) (ls : List CallD) (hr : RdCalls w a ls) (hm : ls.length ≤ 140737488351232) (hb : lb ≤ 140737488351232) :
    Calls Try.prog 18 #[.slice aa lb ca, .slice a ls.length c] w (GreatTo w ls.length) := by
  have HR := Lib.hid hr; clear hr
  go_enter Try.func18, Try.ntmps18
  go_wp2
  go_loopw [5, 12] (fun x i wr => ∃ (k : Nat) (n : Nat), k ≤ ls.length ∧ i = .int .i64 k ∧ x = .int .i64 n ∧ n ≤ 140737488351232 + 2097152 ∧ Hid (Below w.heap.size w wr)) (fun _ i _ => ls.length - (intOf i).toNat)
  case atStart => exact ⟨0, lb, Nat.zero_le _, rfl, rfl, by omega, Below.refl _ _⟩
  case round =>
    obtain ⟨k, n, hk, rfl, rfl, hle, hbl⟩ := hrel
    by_cases hlt : k < ls.length
    · obtain ⟨b, o, rfl, hcell⟩ := (HR.out.below hbl.out) (by intro e; rw [e] at hlt; exact absurd hlt (Nat.not_lt_zero _))
      obtain ⟨l, hl⟩ : ∃ l, ls[k]? = some l := ⟨_, List.getElem?_eq_getElem hlt⟩
      obtain ⟨ai, ci, h1, h2, h3, h4, _, h6, _⟩ := hcell k l hl
      have HL := Lib.hid hl
      clear hcell hl
      by_cases hbig : 2097152 < n + l.b.length
      · go_wp2
        go_ret
        exact ⟨true, rfl, fun h => (Bool.noConfusion h), hbl.out.alloc hbl.out.size _⟩
      · go_wp2
        go_roundw
        case rel => exact ⟨k + 1, n + l.b.length, by omega, by go_num, by go_num, by omega, hbl.out.alloc hbl.out.size _⟩
        case measure => simp [intOf]; omega
    · obtain rfl : k = ls.length := by omega
      by_cases h60 : 60 < ls.length
      · go_wp2
        go_ret
        exact ⟨true, rfl, fun h => (Bool.noConfusion h), hbl.out⟩
      · go_wp2
        go_ret
        exact ⟨_, rfl, fun _ => by omega, hbl.out⟩
end Go.Proofs.Ytebeafpoblhlhaa
