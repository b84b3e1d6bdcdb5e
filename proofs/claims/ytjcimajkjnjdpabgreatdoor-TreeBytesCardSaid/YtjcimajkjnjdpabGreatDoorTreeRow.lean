/- DERIVED. Lists of files in memory. -/
import Derived.Test.YtjcimajkjnjdpabGreatDoorTreePairs
import Derived.Test.YtjcimajkjnjdpabGreatDoorMSort
import Derived.Lib.SliceRun
namespace Go.Proofs.YtjcimajkjnjdpabGreatDoor
open Go.RowKit
set_option linter.unusedVariables false

theorem infoFile : (Tryz.prog.info? 35).map (fun i => (i.zero, i.size, i.bytes)) = some (some (.agg #[.string ByteArray.empty, .string ByteArray.empty]), 2, 32) := by kernel_rfl
theorem info_three {P : Program} {t : TypeId} {z : Value} {n b : Nat} (h : (P.info? t).map (fun i => (i.zero, i.size, i.bytes)) = some (some z, n, b)) : ∃ i, P.info? t = some i ∧ i.zero = some z ∧ i.size = n ∧ i.bytes = b := by
  cases hi : P.info? t with
  | none => rw [hi] at h; cases h
  | some i =>
    rw [hi] at h
    have h := Option.some.inj h
    exact ⟨i, rfl, congrArg Prod.fst h, congrArg (fun x => x.2.1) h, congrArg (fun x => x.2.2) h⟩
theorem pairsV_get (ps : List Pr) (j : Nat) (u : Value) (h : (pairsV ps)[j]? = some u) : ∃ i p, ps[i]? = some p ∧ ((j = i * 2 ∧ u = strV p.1) ∨ (j = i * 2 + 1 ∧ u = strV p.2)) := by
  have hj := (List.getElem?_eq_some_iff.1 h).1
  rw [pairsV_length] at hj
  obtain ⟨p, hp⟩ : ∃ p, ps[j / 2]? = some p := ⟨_, List.getElem?_eq_getElem (by omega)⟩
  obtain ⟨h1, h2⟩ := pairsV_at ps _ p hp
  refine ⟨j / 2, p, hp, ?_⟩
  by_cases e : j = j / 2 * 2
  · rw [← e, h] at h1
    exact .inl ⟨e, Option.some.inj h1⟩
  · have e : j = j / 2 * 2 + 1 := by omega
    rw [← e, h] at h2
    exact .inr ⟨e, Option.some.inj h2⟩
/-- A slice that reads as files. -/
def RdFl (w : World) (a : Option Addr) (ps : List Pr) : Prop :=
  ps ≠ [] → ∃ b o, a = some ⟨b, o, none⟩ ∧ b < w.heap.size ∧ ∀ i p, ps[i]? = some p → w.cell? ⟨b, o + i * 2, none⟩ = some (strV p.1) ∧ w.cell? ⟨b, o + i * 2 + 1, none⟩ = some (strV p.2)
theorem RdFl.nil (w : World) (a : Option Addr) : RdFl w a [] := fun h => absurd rfl h
theorem RdFl.below {w w' : World} {a : Option Addr} {ps : List Pr} (h : RdFl w a ps) (hb : Below w.heap.size w w') : RdFl w' a ps := by
  intro hne
  obtain ⟨b, o, h1, h2, h3⟩ := h hne
  exact ⟨b, o, h1, Nat.lt_of_lt_of_le h2 hb.size, fun i p hi => ⟨below_keeps hb _ _ (h3 i p hi).1, below_keeps hb _ _ (h3 i p hi).2⟩⟩
theorem RdFl.src {w : World} {a : Option Addr} {c : Nat} {ps : List Pr} (h : RdFl w a ps) (hn : a = none → ps = [] ∧ c = 0) : Src Tryz.prog 2 22 (.slice a ps.length c) ps.length (pairsV ps) w := by
  cases a with
  | none =>
    obtain ⟨rfl, rfl⟩ := hn rfl
    exact Src.ofNil w Tryz.underlying22 0
  | some ad =>
    refine Src.ofSlice w Tryz.underlying22 ad ps.length c (pairsV ps) (pairsV_length ps) (fun j u hj => ?_) (pairsV_one ps)
    obtain ⟨i, p, hp, hu⟩ := pairsV_get ps j u hj
    obtain ⟨b, o, e, _, h3⟩ := h (fun e => by rw [e] at hp; cases hp)
    obtain rfl := Option.some.inj e
    obtain ⟨h4, h5⟩ := h3 i p hp
    rw [Addr.add_lit]
    rcases hu with ⟨rfl, rfl⟩ | ⟨rfl, rfl⟩
    · exact h4
    · exact h5
/-- A row of the call's own reads as files. -/
abbrev OwnFl (w : World) (base : Nat) (a : Option Addr) (c : Nat) (ps : List Pr) : Prop := w.ownsRow base 35 2 (.slice a ps.length c) ps.length (pairsV ps)
theorem owns_row {w : World} {base : Nat} {a : Option Addr} {c : Nat} {ps : List Pr} (h : OwnFl w base a c ps) : (a = none ∧ ps = [] ∧ c = 0) ∨ ∃ g, a = some ⟨g, 0, none⟩ ∧ base ≤ g ∧ FlRow w g ps := by
  rcases h.2 with ⟨e1, e2⟩ | ⟨g, cap, cur, e1, h1, hg, _, _, _, ht⟩
  · obtain ⟨rfl, _, rfl⟩ := Value.slice.inj e1
    exact .inl ⟨rfl, List.eq_nil_of_length_eq_zero e2, rfl⟩
  · obtain ⟨rfl, _, _⟩ := Value.slice.inj e1
    have key : ∀ (j : Nat) (u : Value), (pairsV ps)[j]? = some u → cur[j]? = some u := by
      intro j u hj
      rw [← ht, List.getElem?_take] at hj
      split at hj
      · rw [← Array.getElem?_toList]; exact hj
      · cases hj
    exact .inr ⟨g, rfl, h1, cur, _, hg, fun i p hi => ⟨key _ _ (pairsV_at ps i p hi).1, key _ _ (pairsV_at ps i p hi).2⟩⟩
theorem FlRow.rd {w : World} {g : Nat} {ps : List Pr} (h : FlRow w g ps) : RdFl w (some ⟨g, 0, none⟩) ps := fun _ => ⟨g, 0, rfl, h.lt, fun i p hi => by rw [Nat.zero_add]; exact h.cell hi⟩
theorem owns_rd {w : World} {base : Nat} {a : Option Addr} {c : Nat} {ps : List Pr} (h : OwnFl w base a c ps) : RdFl w a ps := by
  rcases owns_row h with ⟨_, rfl, _⟩ | ⟨g, rfl, _, hf⟩
  · exact RdFl.nil _ _
  · exact hf.rd
/-- A slice's address as the walk wants it: nil has no room. -/
structure Sl (a : Option Addr) (n c : Nat) : Prop where
  nil : a = none → n = 0 ∧ c = 0
def CloneTo (w : World) (ps : List Pr) (e : Ending) (w' : World) : Prop :=
  ∃ a c, e = .returned (.slice a ps.length c) ∧ OwnFl w' w.heap.size a c ps ∧ Below w.heap.size w w' ∧ c ≤ maxLen
theorem owns_none2 (W : World) (t : TypeId) : (W.alloc (.cells #[] t)).ownsRow W.heap.size t 2 (.slice (some ⟨W.heap.size, 0, none⟩) 0 0) 0 [] :=
  ⟨rfl, .inr ⟨W.heap.size, 0, #[], rfl, Nat.le_refl _, heap_alloc_new W _, Nat.le_refl _, by unfold maxLen; omega, rfl, rfl⟩⟩
set_option maxHeartbeats 1000000 in
theorem clone_any (w : World) (a : Option Addr) (c : Nat) (ps : List Pr) (h : RdFl w a ps) (hs : Sl a ps.length c) (hl : ps.length ≤ 1000000) :
    Calls Tryz.prog 31 #[.slice a ps.length c] w (CloneTo w ps) := by
  have hq := fun (w : World) (a : Option Addr) (n c : Nat) => Lib.run_eql_slice_nil (P := Tryz.prog) w 22 35 a n c 0 0 Tryz.underlying22
  cases a with
  | none =>
    obtain ⟨h1, rfl⟩ := hs.nil rfl
    obtain rfl : ps = [] := List.eq_nil_of_length_eq_zero h1
    clear h hs h1
    go_enter Tryz.func31, Tryz.ntmps31
    go_wp2
    go_ret
    exact ⟨none, 0, rfl, World.ownsRow_nil _ _ _ _, Below.refl _ _, Nat.zero_le _⟩
  | some ad =>
    have hb1 : Below w.heap.size w (w.alloc (.cells #[] 35)) := (Below.refl _ w).alloc (Nat.le_refl _) _
    have hsrc := (h.below hb1).src (c := c) (fun e => by cases e)
    obtain ⟨i0, hi, hz0, hz1, hz2⟩ := info_three infoFile
    have HB1 := Lib.hid hb1
    clear h hb1 hs
    go_enter Tryz.func31, Tryz.ntmps31
    go_wp2_with (at_builtin; refine wpList_append_srcs rfl (.tmp 5) (.tmp 6) 22 22 rfl w.heap.size 35 i0 _ 2 32 Tryz.underlying22 hi hz0 hz1 hz2 rfl (by decide) (.slice (some ⟨w.heap.size, 0, none⟩) 0 0) rfl 0 [] (owns_none2 w 35) (.slice (some ad) ps.length c) rfl _ _ hsrc (by unfold maxLen; omega) (by omega) (by simp) ?_; intro a' c' w' hown hgrow hnil _; simp only [Nat.zero_add, List.nil_append] at hown)
    go_wp2
    go_ret
    exact ⟨a', c', rfl, hown, HB1.out.grown hgrow HB1.out.size (fun k e => Nat.le_of_eq (show w.heap.size = k from Option.some.inj e)), (owns_cap hown).2⟩
end Go.Proofs.YtjcimajkjnjdpabGreatDoor
