/- DERIVED. tree.Make, walked. -/
import Derived.Test.YtjcimajkjnjdpabGreatDoorTreeClash
import Derived.Test.YtjcimajkjnjdpabGreatDoorMSortB
namespace Go.Proofs.YtjcimajkjnjdpabGreatDoor
open Go.RowKit
set_option linter.unusedVariables false

/-- A row of files that the call made, or none. -/
def RowAt (w : World) (base : Nat) (a : Option Addr) (c : Nat) (qs : List Pr) : Prop := (a = none ∧ qs = [] ∧ c = 0) ∨ ∃ g, a = some ⟨g, 0, none⟩ ∧ base ≤ g ∧ FlRow w g qs
theorem RowAt.rd {w : World} {base : Nat} {a : Option Addr} {c : Nat} {qs : List Pr} (h : RowAt w base a c qs) : RdFl w a qs := by
  rcases h with ⟨_, rfl, _⟩ | ⟨g, rfl, _, hf⟩
  · exact RdFl.nil _ _
  · exact hf.rd
theorem RowAt.sl {w : World} {base : Nat} {a : Option Addr} {c : Nat} {qs : List Pr} (h : RowAt w base a c qs) : Sl a qs.length c := by
  rcases h with ⟨rfl, rfl, rfl⟩ | ⟨g, rfl, _, hf⟩
  · exact ⟨fun _ => ⟨rfl, rfl⟩⟩
  · exact ⟨fun e => by cases e⟩
theorem RowAt.keep {w w' : World} {base : Nat} {a : Option Addr} {c : Nat} {qs : List Pr} (h : RowAt w base a c qs) (hk : ∀ g, base ≤ g → g < w.heap.size → w'.heap[g]? = w.heap[g]?) : RowAt w' base a c qs := by
  rcases h with h | ⟨g, rfl, hb, hf⟩
  · exact .inl h
  · exact .inr ⟨g, rfl, hb, hf.keep (hk g hb hf.lt)⟩
theorem RowAt.below {w w' : World} {base : Nat} {a : Option Addr} {c : Nat} {qs : List Pr} (h : RowAt w base a c qs) (hb : Below w.heap.size w w') : RowAt w' base a c qs := h.keep fun g _ hl => hb.block g hl
theorem RowAt.base {w : World} {base base' : Nat} {a : Option Addr} {c : Nat} {qs : List Pr} (h : RowAt w base a c qs) (hb : base' ≤ base) : RowAt w base' a c qs := by
  rcases h with h | ⟨g, rfl, h1, hf⟩
  · exact .inl h
  · exact .inr ⟨g, rfl, Nat.le_trans hb h1, hf⟩
theorem owns_rowAt {w : World} {base : Nat} {a : Option Addr} {c : Nat} {ps : List Pr} (h : OwnFl w base a c ps) : RowAt w base a c ps := owns_row h
/-- Such a row, put in order. -/
def SortTo (base : Nat) (a : Option Addr) (c : Nat) (ps : List Pr) (w : World) (e : Ending) (w' : World) : Prop :=
  e = .returned (.tuple #[]) ∧ ∃ qs, RowAt w' base a c qs ∧ qs.Perm ps ∧ SrtOn qs 0 qs.length ∧ Below base w w'
set_option maxRecDepth 100000 in
set_option maxHeartbeats 4000000 in
theorem stab_nil (a : Option Addr) (c : Nat) (w : World) :
    Calls Tryz.prog 68 #[.slice a 0 c, .int .i64 0, .func (.func 34) #[] #[]] w (fun e w' => e = .returned (.tuple #[]) ∧ Below w.heap.size w w') := by
  have hins : ∀ W, Calls Tryz.prog 96 #[.slice a 0 c, .int .i64 0, .int .i64 0, .func (.func 34) #[] #[]] W (fun e w' => e = .returned (.tuple #[]) ∧ W = w') := by
    intro W
    go_enter Tryz.func96, Tryz.ntmps96
    go_wp2_with fail
    go_loopw [8] (fun x wr => x = .int .i64 1 ∧ wr = W) (fun x _ => 0)
    case atStart => exact ⟨rfl, rfl⟩
    case round =>
      obtain ⟨rfl, rfl⟩ := hrel
      go_wp2_with fail
      go_end0
      exact ⟨rfl, rfl⟩
  have HI := Lib.hid hins; clear hins
  go_enter Tryz.func68, Tryz.ntmps68
  go_wp2_with fail
  go_loopw [7, 8] (fun x y wr => x = .int .i64 0 ∧ y = .int .i64 20 ∧ wr = w) (fun x _ _ => 0)
  case atStart => exact ⟨rfl, rfl, rfl⟩
  case round =>
    obtain ⟨rfl, rfl, rfl⟩ := hrel
    go_wp2_with fail
    refine (HI.out _).mono ?_
    rintro e w' ⟨rfl, rfl⟩
    go_wp2_with fail
    go_loopw [6, 7, 8] (fun x _ _ wv => x = .int .i64 20 ∧ wv = wr) (fun x _ _ _ => 0)
    case atStart => exact ⟨rfl, rfl⟩
    case round =>
      obtain ⟨rfl, rfl⟩ := hrel
      go_wp2_with fail
      go_end0
      exact ⟨rfl, Below.refl _ _⟩
set_option maxHeartbeats 1000000 in
theorem sort_nil (a : Option Addr) (c : Nat) (w : World) :
    Calls Tryz.prog 46 #[.slice a 0 c, .func (.func 34) #[] #[]] w (fun e w' => e = .returned (.tuple #[]) ∧ Below w.heap.size w w') := by
  have HI := Lib.hid (stab_nil a c w)
  go_enter Tryz.func46, Tryz.ntmps46
  go_wp2_with fail
  refine HI.out.mono ?_
  rintro e w' ⟨rfl, h⟩
  have H := Lib.hid h; clear h
  go_wp2_with fail
  go_end0
  exact ⟨rfl, H.out⟩
theorem sort_row (base : Nat) (a : Option Addr) (c n : Nat) (ps : List Pr) (w : World) (h : RowAt w base a c ps) (hn : n = ps.length) (hb : base ≤ w.heap.size) (hm : ps.length ≤ 39) :
    Calls Tryz.prog 46 #[.slice a n c, .func (.func 34) #[] #[]] w (SortTo base a c ps w) := by
  subst hn
  rcases h with ⟨rfl, rfl, rfl⟩ | ⟨g, rfl, hg, hf⟩
  · refine (sort_nil none 0 w).mono ?_
    rintro e w' ⟨rfl, h⟩
    exact ⟨rfl, [], .inl ⟨rfl, rfl, rfl⟩, List.Perm.refl _, fun i j p q h1 h2 h3 => by simp at h3, h.mono hb⟩
  · refine (sort_any g c ps.length ps w hf rfl hm).mono ?_
    rintro e w' ⟨rfl, qs, h1, h2, h3, h4⟩
    exact ⟨rfl, qs, .inr ⟨g, rfl, hg, h1⟩, h2.1, by rw [h2.length]; exact h3, below_of_ch h4 (by intro k hk; rw [show k = g from by simpa using hk]; exact hg) hb⟩
end Go.Proofs.YtjcimajkjnjdpabGreatDoor
