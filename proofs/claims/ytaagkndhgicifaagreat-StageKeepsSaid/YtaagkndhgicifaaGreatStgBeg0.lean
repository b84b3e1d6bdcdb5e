/- DERIVED. The two stocks of a pack, made. (Printed by stbeggen.py.) -/
import Derived.Test.YtaagkndhgicifaaGreatSv14
namespace Go.Proofs.YtaagkndhgicifaaGreat
open Go.RowKit Go.Shelf
set_option linter.unusedVariables false
set_option linter.unusedSimpArgs false
set_option maxRecDepth 100000
structure Beg (w w' : World) (B : Nat) (F : List Nat) (vm : Value) (st : St) : Prop where
 stk : StkAt w' B F st
 new : ∀ b ∈ F, w.heap.size ≤ b
 ref : RefAt (fun b => b ∉ F) w' vm st
 few : st.seeds.length ≤ 8 ∧ st.recs.length ≤ 32
 good : ∀ r ∈ st.recs, goodRc r = true
 ok : st.Ok
theorem Beg.below {w w' W : World} {B : Nat} {F : List Nat} {vm : Value} {st : St} (h : Beg w w' B F vm st) (hb : Below w'.heap.size w' W) : Beg w W B F vm st :=
 ⟨h.stk.below hb, h.new, h.ref.below hb, h.few, h.good, h.ok⟩
theorem Bg.beg {w w' : World} {D : Nat → Prop} {B : Nat} {F : List Nat} {vm : Value} {st : St} (h : Bg w D w' B F vm st) : Beg w w' B F vm st :=
 ⟨h.stk.keepF (Nat.le_refl _) (fun _ _ _ => trivial) (fun _ _ _ => rfl), fun b hb => (h.new b hb).1, h.ref.keep ⟨fun b _ hz => hz.1, Nat.le_refl _, fun _ _ _ h => h⟩, h.stk.few8, h.stk.goods, h.stk.okay⟩
theorem seedP_keep {w w' : World} {B : Nat} {F F' : List Nat} (h : Ch F w w') (hn : ∀ b ∈ F', b ∈ F ∨ w.heap.size ≤ b) : Keep (fun b => b ∉ F) (fun b => b ∉ F') w w' :=
 Keep.of_block (fun b hl hz hm => (hn b hm).elim hz (fun h => by omega)) h.size (fun b hl hz => h.block b hl hz)
def BegP (w : World) (e : Ending) (w' : World) : Prop := Below w.heap.size w w' ∧ ∃ (B : Nat) (a1 : Option Addr) (n1 c1 : Nat) (a2 : Option Addr) (n2 c2 : Nat) (ok : Bool),
 e = .returned (.tuple #[.pointer (some ⟨B, 0, none⟩), .agg #[.slice a1 n1 c1, .slice a2 n2 c2], .bool ok]) ∧
 (ok = true → ∃ (st : St) (F : List Nat), Beg w w' B F (.agg #[.slice a1 n1 c1, .slice a2 n2 c2]) st)
theorem begP_no {w w' : World} {B : Nat} {a1 : Option Addr} {n1 c1 : Nat} {a2 : Option Addr} {n2 c2 : Nat} (h : Below w.heap.size w w') : BegP w (.returned (.tuple #[.pointer (some ⟨B, 0, none⟩), .agg #[.slice a1 n1 c1, .slice a2 n2 c2], .bool false])) w' :=
 ⟨h, B, a1, n1, c1, a2, n2, c2, false, rfl, fun h => by cases h⟩
theorem refShape {Z : Zone} {w : World} {v : Value} {st : St} (h : RefAt Z w v st) : ∃ (a1 : Option Addr) (n1 c1 : Nat) (a2 : Option Addr) (n2 c2 : Nat), v = .agg #[.slice a1 n1 c1, .slice a2 n2 c2] := by
 obtain ⟨a1, c1, a2, c2, rfl, -⟩ := h.form
 exact ⟨a1, _, c1, a2, _, c2, rfl⟩
end Go.Proofs.YtaagkndhgicifaaGreat
