/- DERIVED. The walks of package shelf over texts by texts: New, Len, Get, Put. -/
import Derived.Test.YtipindjchcmckaaShelfC
namespace Go.Proofs.Ytipindjchcmckaa
open Go.RowKit
set_option linter.unusedVariables false

/-- A shelf whose struct lies in block S. -/
structure ShAt (w : World) (S : Nat) (v : Value) (ps : List Pr) : Prop where
  cells : w.heap[S]? = some (.cells #[v] 57 (0, 0))
  row : w.ownsRow 0 61 2 v ps.length (pairsV ps)
  apart : v.ownBlock ≠ some S
  srt : Srt ps
def shFoot (S : Nat) (v : Value) : List Nat := S :: v.ownBlock.toList
theorem ShAt.lt {w : World} {S : Nat} {v : Value} {ps : List Pr} (h : ShAt w S v ps) : ∀ k ∈ shFoot S v, k < w.heap.size := by
  intro k hk
  rcases List.mem_cons.1 hk with rfl | hk
  · exact lt_of_heap h.cells
  · exact owns_lt h.row k (by simpa using hk)
theorem ShAt.keep {w w' : World} {S : Nat} {v : Value} {ps : List Pr} (h : ShAt w S v ps) (hk : ∀ k ∈ shFoot S v, w'.heap[k]? = w.heap[k]?) : ShAt w' S v ps :=
  ⟨(hk S (by simp [shFoot])).trans h.cells, ownsRow_keep h.row (fun g hg => hk g (by simp [shFoot, hg])), h.apart, h.srt⟩
theorem ShAt.below {w w' : World} {S : Nat} {v : Value} {ps : List Pr} (h : ShAt w S v ps) (hb : Below w.heap.size w w') : ShAt w' S v ps :=
  h.keep fun k hk => hb.block k (h.lt k hk)
theorem ShAt.drewN {w : World} {S : Nat} {v : Value} {ps : List Pr} (h : ShAt w S v ps) (n : Nat) : ShAt (w.drewN n) S v ps := ⟨h.cells, h.row, h.apart, h.srt⟩
/-- What a method that writes leaves. -/
def ShTo (w : World) (S : Nat) (v : Value) (ps' : List Pr) (w' : World) : Prop :=
  ∃ v', ShAt w' S v' ps' ∧ Ch (shFoot S v) w w' ∧ ∀ k ∈ shFoot S v', k ∈ shFoot S v ∨ w.heap.size ≤ k

set_option maxHeartbeats 1000000 in
theorem shnew_any (w : World) :
    Calls Try.prog 19 #[] w fun e w' => e = .returned (.pointer (some ⟨w.heap.size, 0, none⟩)) ∧ w' = w.alloc (.cells #[.slice none 0 0] 57) := by
  go_enter Try.func19, Try.ntmps19
  go_wp2
  go_ret
  exact ⟨rfl, rfl⟩
set_option maxHeartbeats 1000000 in
theorem shlen_any (w : World) (S : Nat) (v : Value) (ps : List Pr) (h : ShAt w S v ps) :
    Calls Try.prog 29 #[.pointer (some ⟨S, 0, none⟩)] w fun e w' => e = .returned (.int .i64 ps.length) ∧ w = w' := by
  obtain ⟨a, c, rfl⟩ := owns_form h.row
  have h0 := cell_of_heap h.cells 0
  go_enter Try.func29, Try.ntmps29
  go_wp2
  go_ret
  exact ⟨rfl, rfl⟩
set_option maxHeartbeats 1000000 in
theorem find_any (w : World) (S : Nat) (v : Value) (ps : List Pr) (k : List UInt8) (h : ShAt w S v ps) (hl : ps.length ≤ 1000000) :
    Calls Try.prog 31 #[.pointer (some ⟨S, 0, none⟩), strV k] w (Found ps k w) := by
  obtain ⟨a, c, rfl⟩ := owns_form h.row
  have h0 := cell_of_heap h.cells 0
  have hbs := bs_any w a c ps k (RdPairs.of_owns h.row) h.srt (by omega)
  have HBS := Lib.hid hbs
  clear hbs h
  go_enter Try.func31, Try.ntmps31
  go_wp2_with fail
  refine HBS.out.mono ?_
  rintro e w' ⟨i, b, rfl, h1, h2, h3⟩
  have H1 := Lib.hid h1; have H2 := Lib.hid h2; have H3 := Lib.hid h3; clear h1 h2 h3
  go_wp2_with fail
  go_ret2
  exact ⟨i, b, rfl, H1.out, H2.out, H3.out⟩
/-- What Get says. -/
def GetTo (ps : List Pr) (k : List UInt8) (w : World) (e : Ending) (w' : World) : Prop :=
  ∃ (val : List UInt8) (b : Bool), e = .returned (.tuple #[strV val, .bool b]) ∧ (b = true → (k, val) ∈ ps) ∧ (b = false → val = [] ∧ ∀ v, (k, v) ∉ ps) ∧ Below w.heap.size w w'
set_option maxHeartbeats 1000000 in
theorem shget_any (w : World) (S : Nat) (v : Value) (ps : List Pr) (k : List UInt8) (h : ShAt w S v ps) (hl : ps.length ≤ 1000000) :
    Calls Try.prog 20 #[.pointer (some ⟨S, 0, none⟩), strV k] w (GetTo ps k w) := by
  obtain ⟨a, c, rfl⟩ := owns_form h.row
  have HF := Lib.hid (find_any w S _ ps k h hl)
  have HH := Lib.hid h; clear h
  go_enter Try.func20, Try.ntmps20
  go_wp2_with fail
  refine HF.out.mono ?_
  rintro e w' ⟨i, b, rfl, h1, h2, h3⟩
  cases b
  · have h2' : ∀ v, (k, v) ∉ ps := fun v hv => by have := h2.2 ⟨v, hv⟩; cases this
    have H2 := Lib.hid h2'; have H3 := Lib.hid h3; clear h1 h2 h3 h2'
    go_wp2_with fail
    go_ret2
    exact ⟨[], false, rfl, (fun e => by cases e), fun _ => ⟨rfl, H2.out⟩, H3.out⟩
  · obtain ⟨val, hval⟩ := h2.1 rfl
    have hat := h1.at HH.out.srt hval
    have hil := (List.getElem?_eq_some_iff.1 hat).1
    have hne : ps ≠ [] := by intro e; rw [e] at hil; exact absurd hil (Nat.not_lt_zero _)
    have hk := (HH.out.below h3)
    obtain ⟨g, rfl, hg, hc⟩ := (RdPairs.of_owns hk.row) hne
    obtain ⟨c0, c1⟩ := hc _ _ hat
    have k0 := cell_of_heap hk.cells 0
    have HV := Lib.hid hval; have H3 := Lib.hid h3; clear h1 h2 h3 hc hval hat hk
    go_wp2_with fail
    go_ret2
    exact ⟨val, true, rfl, fun _ => HV.out, (fun e => by cases e), H3.out⟩
end Go.Proofs.Ytipindjchcmckaa
