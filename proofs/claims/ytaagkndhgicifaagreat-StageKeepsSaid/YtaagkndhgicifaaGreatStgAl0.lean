/- DERIVED. A stock of the law's own and its stages; the document's example. (Printed by stalgen.py.) -/
import Derived.Test.YtaagkndhgicifaaGreatStgFix
import Derived.Test.YtaagkndhgicifaaGreatStgTool
namespace Go.Proofs.YtaagkndhgicifaaGreat
open Go.RowKit Go.Shelf
set_option linter.unusedVariables false
set_option linter.unusedSimpArgs false
set_option maxRecDepth 100000
theorem own_fix {w0 w : World} {B : Nat} {st : St} (h : StkOwn w0 w B st) (left : Int) (hl : left ≤ 2000) :
  Calls Tryz.prog 16 #[.pointer (some ⟨B, 0, none⟩), .int .i64 left] w (FixP st left w) := by
 obtain ⟨F, h1, h2, h3⟩ := h
 exact fix_any w B F st h1 left hl
theorem own_tool {w0 w : World} {B : Nat} {st : St} (h : StkOwn w0 w B st) (n t : List UInt8) (k lo hi : Int) (hl : n.length ≤ 1000) (ht : t.length ≤ 1000) {N T : ByteArray} (hN : strV n = .string N) (hT : strV t = .string T) {g : Nat} (hx : w.heap[g]? = some (.cells #[.int .i64 (lo * 1000000), .int .i64 (hi * 1000000)] 125 (0, 0))) :
  Calls Tryz.prog 28 #[.pointer (some ⟨B, 0, none⟩), .agg #[.string N, .int .i64 k, .int .i64 0, .int .i64 0, .string T, .slice (some ⟨g, 0, none⟩) 1 1, .slice none 0 0, .slice none 0 0]] w (fun e w' => e = .returned (.int .i64 (st.add (toolR n k t lo hi)).2) ∧ StkOwn w0 w' B (st.add (toolR n k t lo hi)).1) :=
 own_add h n k hl hN (Z := zAll) (tl := (t, [(lo * 1000000, hi * 1000000)])) (bd := []) (rn := []) (depAt_one hT ht hx trivial) depsAt_none depsAt_none
theorem FixP.some {st : St} {left : Int} {w w' : World} {e : Ending} {L : List Ent} {l : List Pk} {m : Int} (h : FixP st left w e w') (hs : fixT st left = some (L, l, m)) : Below w.heap.size w w' ∧ ∃ Tb es, e = .returned (.tuple #[.pointer (some ⟨Tb, 0, none⟩), .int .i64 0]) ∧ es.map Prod.fst = L ∧ StgAt (zNew w.heap.size) w' Tb es l m := by
 obtain ⟨h1, h2⟩ := h
 rw [hs] at h2
 exact ⟨h1, h2⟩
def n_x : List UInt8 := [120]
def stA0 : St := (St.empty.seed (n_cc, 1, 0, 0)).1
def stA1 : St := (stA0.add (toolR n_cc 2 n_cc 0 2)).1
def stA2 : St := (stA1.add (toolR n_cc 3 n_cc 2 9)).1
def stA3 : St := (stA2.add (toolR n_x 1 n_x 0 9)).1
def L_A : List Ent := [⟨(n_cc, 1, 0, 0), 0, ch0⟩, ⟨(n_cc, 2, 0, 0), 1, ((n_cc, 1, 0, 0), [])⟩, ⟨(n_cc, 3, 0, 0), 2, ((n_cc, 2, 0, 0), [])⟩]
theorem fix_A : fixT stA3 100 = some (L_A, [(n_x, 1, 0, 0)], 2) := fixCT_T (n := 10) (by kernel_rfl)
end Go.Proofs.YtaagkndhgicifaaGreat
