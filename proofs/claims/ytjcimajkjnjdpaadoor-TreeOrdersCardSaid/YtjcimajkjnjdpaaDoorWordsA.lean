/- DERIVED. Texts, and lists of texts, in memory. -/
import Derived.Test.YtjcimajkjnjdpaaDoorRows
import Derived.WalkKit
import Derived.WalkSpells
import Derived.WalkLawsBesides
import Derived.BigRegion
import Derived.Deep.QuietTactic
import Derived.BigQuiet
import Derived.ProofKit
import Derived.OpenShut
import Derived.Test.YtjcimajkjnjdpaaDoorMem
import Derived.Test.YtjcimajkjnjdpaaDoorArg
namespace Go.Proofs.YtjcimajkjnjdpaaDoor
open Go.RowKit Go.ChangeShapes Go.WideShapes
set_option linter.unusedVariables false

theorem Below.drewN {n : Nat} {w w' : World} (h : Below n w w') (k : Nat) : Below n w (w'.drewN k) := ⟨h.os, h.tape, h.output, h.size, h.block⟩

theorem below_of_ch {S : List Nat} {B : Nat} {w w' : World} (h : Ch S w w') (hS : ∀ k ∈ S, B ≤ k) (hB : B ≤ w.heap.size) : Below B w w' :=
  ⟨h.os, h.tape, h.output, h.size, fun k hk => h.block k (by omega) (fun hs => by have := hS k hs; omega)⟩
theorem cells_one {w : World} {a : Addr} {cs : List Value} (h : w.cells? 0 a 1 = some cs) : ∃ v, cs = [v] ∧ w.cell? a = some v := by
  unfold World.cells? at h
  rw [if_pos (Nat.zero_le _)] at h
  simp [List.range, List.range.loop] at h
  cases hc : w.cell? a with
  | none => rw [show a.add 0 = a from by simp [Addr.add]] at h; rw [hc] at h; simp at h
  | some v =>
    rw [show a.add 0 = a from by simp [Addr.add]] at h
    rw [hc] at h
    simp at h
    exact ⟨v, h.symm, rfl⟩
theorem cell_spot {w : World} {a : Addr} {v : Value} (h : w.cell? a = some v) : a.spot = none := by
  unfold World.cell? at h
  split at h
  · split at h
    · cases h
    · rename_i hs; simpa using hs
  · cases h
theorem str_append (a b : List UInt8) : (⟨a.toArray⟩ : ByteArray) ++ ⟨b.toArray⟩ = ⟨(a ++ b).toArray⟩ := by
  apply ByteArray.ext
  rw [ByteArray.data_append]
  simp
theorem str_size (a : List UInt8) : (⟨a.toArray⟩ : ByteArray).size = a.length := by
  show a.toArray.size = a.length
  simp
theorem str_take (a : List UInt8) (k : Nat) : (⟨a.toArray⟩ : ByteArray).extract 0 k = ⟨(a.take k).toArray⟩ := by
  apply ByteArray.ext
  rw [ByteArray.data_extract]
  apply Array.ext'
  simp

def strV (l : List UInt8) : Value := .string ⟨l.toArray⟩
def strsV (ls : List (List UInt8)) : List Value := ls.map strV
theorem strsV_length (ls : List (List UInt8)) : (strsV ls).length = ls.length := by simp [strsV]
theorem strsV_one (ls : List (List UInt8)) : ∀ u ∈ strsV ls, u.oneCell' = true := by
  intro u hu
  obtain ⟨_, _, rfl⟩ := List.mem_map.1 hu
  rfl
theorem strV_inj {a b : List UInt8} : strV a = strV b ↔ a = b := by simp [strV]
theorem info9 : (Tryd.prog.info? 9).map (fun i => (i.zero, i.size, i.bytes)) = some (some (.string ByteArray.empty), 1, 16) := by kernel_rfl

/-- A list of strings that is read. -/
def RdStrs (w : World) (a : Option Addr) (ls : List (List UInt8)) : Prop :=
  ls ≠ [] → ∃ b o, a = some ⟨b, o, none⟩ ∧ ∀ i l, ls[i]? = some l → w.cell? ⟨b, o + i, none⟩ = some (.string ⟨l.toArray⟩)
theorem RdStrs.below {w w' : World} {a : Option Addr} {ls : List (List UInt8)} (h : RdStrs w a ls) (hb : Below w.heap.size w w') : RdStrs w' a ls := by
  intro hne
  obtain ⟨b, o, h1, h2⟩ := h hne
  exact ⟨b, o, h1, fun i l hi => below_keeps hb _ _ (h2 i l hi)⟩
theorem RdStrs.of_owns {w : World} {base n c : Nat} {a : Option Addr} {e : TypeId} {ls : List (List UInt8)} (h : w.ownsRow base e 1 (.slice a n c) n (strsV ls)) : RdStrs w a ls := by
  intro hne
  rcases h.2 with ⟨e1, e2⟩ | ⟨g, cap, cur, e1, _, hg, _, _, _, ht⟩
  · have h1 := h.1
    rw [e2, strsV_length] at h1
    exact absurd (List.eq_nil_of_length_eq_zero (by omega)) hne
  · obtain ⟨rfl, _, _⟩ := Value.slice.inj e1
    refine ⟨g, 0, rfl, fun i l hi => ?_⟩
    rw [cell_of_heap hg]
    have hj : (strsV ls)[i]? = some (strV l) := by simp [strsV, hi]
    rw [Nat.mul_one] at ht
    rw [← ht, List.getElem?_take] at hj
    split at hj
    · rw [Nat.zero_add, ← Array.getElem?_toList]; exact hj
    · cases hj
theorem grow_below {w wr w' : World} {n : Nat} {o : Obj} {v : Value} (hb : Below w.heap.size w wr) (hg : ((wr.drewN n).alloc o).grownBy w' v.ownBlock) (hv : ∀ g, v.ownBlock = some g → w.heap.size ≤ g) : Below w.heap.size w w' := by
  have h : Ch [] w ((wr.drewN n).alloc o) := Ch.alloc (w := wr.drewN n) ⟨hb.os, hb.tape, hb.output, hb.size, fun k hk _ => hb.block k hk⟩ o
  exact (h.grown hg (fun k hk => .inr (hv k hk))).below
end Go.Proofs.YtjcimajkjnjdpaaDoor
