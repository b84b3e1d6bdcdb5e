/- DERIVED. Texts, and lists of texts, in memory. -/
import Derived.Test.YtnekmmknjhflgaaDoorRows
import Derived.WalkKit
import Derived.WalkSpells
import Derived.WalkLawsBesides
import Derived.BigRegion
import Derived.Deep.QuietTactic
import Derived.BigQuiet
import Derived.ProofKit
import Derived.OpenShut
import Derived.Test.YtnekmmknjhflgaaDoorMem
import Derived.Test.YtnekmmknjhflgaaDoorArg
namespace Go.Proofs.YtnekmmknjhflgaaDoor
open Go.RowKit Go.ChangeShapes Go.WideShapes
set_option linter.unusedVariables false

theorem Below.drewN {n : Nat} {w w' : World} (h : Below n w w') (k : Nat) : Below n w (w'.drewN k) := ⟨h.os, h.tape, h.output, h.size, h.block⟩

theorem below_of_ch {S : List Nat} {B : Nat} {w w' : World} (h : Ch S w w') (hS : ∀ k ∈ S, B ≤ k) (hB : B ≤ w.heap.size) : Below B w w' :=
  ⟨h.os, h.tape, h.output, h.size, fun k hk => h.block k (by omega) (fun hs => by have := hS k hs; omega)⟩
theorem cells_one {w : World} {a : Addr} {cs : List Value} (h : w.cells? 0 a 1 = some cs) : ∃ v, cs = [v] ∧ w.cell? a = some v := by
  unfold World.cells? at h
  rw [if_pos (Nat.zero_le _)] at h
  simp [List.range, List.range.loop] at h
  cases hc : w.cell? a with
  | none => rw [show a.add 0 = a from by simp [Addr.add]] at h; rw [hc] at h; simp at h
  | some v =>
    rw [show a.add 0 = a from by simp [Addr.add]] at h
    rw [hc] at h
    simp at h
    exact ⟨v, h.symm, rfl⟩
theorem cell_spot {w : World} {a : Addr} {v : Value} (h : w.cell? a = some v) : a.spot = none := by
  unfold World.cell? at h
  split at h
  · split at h
    · cases h
    · rename_i hs; simpa using hs
  · cases h
theorem str_append (a b : List UInt8) : (⟨a.toArray⟩ : ByteArray) ++ ⟨b.toArray⟩ = ⟨(a ++ b).toArray⟩ := by
  apply ByteArray.ext
  rw [ByteArray.data_append]
  simp
theorem str_size (a : List UInt8) : (⟨a.toArray⟩ : ByteArray).size = a.length := by
  show a.toArray.size = a.length
  simp
theorem str_take (a : List UInt8) (k : Nat) : (⟨a.toArray⟩ : ByteArray).extract 0 k = ⟨(a.take k).toArray⟩ := by
  apply ByteArray.ext
  rw [ByteArray.data_extract]
  apply Array.ext'
  simp

def strV (l : List UInt8) : Value := .string ⟨l.toArray⟩
def strsV (ls : List (List UInt8)) : List Value := ls.map strV
theorem strsV_length (ls : List (List UInt8)) : (strsV ls).length = ls.length := by simp [strsV]
theorem strsV_one (ls : List (List UInt8)) : ∀ u ∈ strsV ls, u.oneCell' = true := by
  intro u hu
  obtain ⟨_, _, rfl⟩ := List.mem_map.1 hu
  rfl
theorem strV_inj {a b : List UInt8} : strV a = strV b ↔ a = b := by simp [strV]
theorem info9 : (Tryd.prog.info? 9).map (fun i => (i.zero, i.size, i.bytes)) = some (some (.string ByteArray.empty), 1, 16) := by kernel_rfl

/-- A list of strings that is read. -/
def RdStrs (w : World) (a : Option Addr) (ls : List (List UInt8)) : Prop :=
  ls ≠ [] → ∃ b o, a = some ⟨b, o, none⟩ ∧ ∀ i l, ls[i]? = some l → w.cell? ⟨b, o + i, none⟩ = some (.string ⟨l.toArray⟩)
theorem RdStrs.below {w w' : World} {a : Option Addr} {ls : List (List UInt8)} (h : RdStrs w a ls) (hb : Below w.heap.size w w') : RdStrs w' a ls := by
  intro hne
  obtain ⟨b, o, h1, h2⟩ := h hne
  exact ⟨b, o, h1, fun i l hi => below_keeps hb _ _ (h2 i l hi)⟩
theorem RdStrs.of_owns {w : World} {base n c : Nat} {a : Option Addr} {e : TypeId} {ls : List (List UInt8)} (h : w.ownsRow base e 1 (.slice a n c) n (strsV ls)) : RdStrs w a ls := by
  intro hne
  rcases h.2 with ⟨e1, e2⟩ | ⟨g, cap, cur, e1, _, hg, _, _, _, ht⟩
  · have h1 := h.1
    rw [e2, strsV_length] at h1
    exact absurd (List.eq_nil_of_length_eq_zero (by omega)) hne
  · obtain ⟨rfl, _, _⟩ := Value.slice.inj e1
    refine ⟨g, 0, rfl, fun i l hi => ?_⟩
    rw [cell_of_heap hg]
    have hj : (strsV ls)[i]? = some (strV l) := by simp [strsV, hi]
    rw [Nat.mul_one] at ht
    rw [← ht, List.getElem?_take] at hj
    split at hj
    · rw [Nat.zero_add, ← Array.getElem?_toList]; exact hj
    · cases hj
theorem grow_below {w wr w' : World} {n : Nat} {o : Obj} {v : Value} (hb : Below w.heap.size w wr) (hg : ((wr.drewN n).alloc o).grownBy w' v.ownBlock) (hv : ∀ g, v.ownBlock = some g → w.heap.size ≤ g) : Below w.heap.size w w' := by
  have h : Ch [] w ((wr.drewN n).alloc o) := Ch.alloc (w := wr.drewN n) ⟨hb.os, hb.tape, hb.output, hb.size, fun k hk _ => hb.block k hk⟩ o
  exact (h.grown hg (fun k hk => .inr (hv k hk))).below
theorem one_src (w : World) (r : List UInt8) (t : TypeId) : Src Tryd.prog 1 35 (.slice (some ⟨w.heap.size, 0, none⟩) 1 1) 1 [strV r] (w.alloc (.cells #[strV r] t)) := by
  have h : Rd (w.alloc (.cells #[strV r] t)) (.slice (some ⟨w.heap.size, 0, none⟩) 1 1) [strV r] := by
    refine ⟨_, 1, rfl, Nat.le_refl _, fun h => (Option.some_ne_none _ h).elim, fun ad e j u hj => ?_⟩
    obtain rfl := Option.some.inj e
    rw [Addr.add_lit, Nat.zero_add, cell_of_heap (heap_alloc_new w _)]
    simpa using hj
  exact h.src Tryd.underlying35 (strsV_one [r])
theorem strs_of_arg {H : Type} {enc : TypeId × Value → H} {w : World} {fuel : Nat} {v : Value} (h : Arg enc Tryd.prog w fuel 35 [v]) :
    ∃ (ls : List (List UInt8)) (a : Option Addr) (c : Nat), v = .slice a ls.length c ∧ RdStrs w a ls ∧ ls.length ≤ 140737488351232 ∧ ∀ r ∈ ls, r.length ≤ 140737488351232 := by
  obtain ⟨a, len, cap, hv, hl, hm, hb, hn, hc⟩ := h.slice Tryd.underlying35
  obtain rfl : v = .slice a len cap := by simpa using hv
  have hlen : len ≤ 140737488351232 := by
    rw [show Tryd.prog.bytesOf 9 = 16 from by kernel_rfl] at hb
    omega
  have key : ∀ i, i < len → ∃ l : List UInt8, ∀ ad, a = some ad → ad.spot = none ∧ w.cell? ⟨ad.block, ad.off + i, none⟩ = some (.string ⟨l.toArray⟩) ∧ l.length ≤ 140737488351232 := by
    intro i hi
    cases a with
    | none => have := hn rfl; omega
    | some ad =>
      have hs : ad.spot = none := by
        obtain ⟨cs', h1, _⟩ := hc ad rfl 0 (by omega)
        rw [show Tryd.prog.cellsOf 9 = 1 from by kernel_rfl] at h1
        obtain ⟨v, rfl, h3⟩ := cells_one h1
        rw [show ad.add (0 * 1) = ad from by simp [Addr.add]] at h3
        exact cell_spot h3
      obtain ⟨cs', h1, h2⟩ := hc ad rfl i hi
      rw [show Tryd.prog.cellsOf 9 = 1 from by kernel_rfl, Nat.mul_one] at h1
      obtain ⟨v, rfl, h3⟩ := cells_one h1
      obtain ⟨s, e, hsz⟩ := h2.string Tryd.underlying9
      obtain rfl : v = .string s := by simpa using e
      obtain ⟨b, o, sp⟩ := ad
      simp only at hs; subst hs
      rw [Addr.add_lit] at h3
      refine ⟨s.data.toList, fun ad' e => ?_⟩
      obtain rfl := Option.some.inj e
      exact ⟨rfl, h3, by simpa using hsz⟩
  obtain ⟨f, hf⟩ := Go.Deep.choose_lt (α := List UInt8) key
  have hall : a = none → len = 0 := fun e => by have := hn e; omega
  refine ⟨(List.range len).map f, a, cap, by simp, ?_, by simpa using hlen, ?_⟩
  · intro hne
    have h0 : 0 < len := by
      rcases Nat.eq_zero_or_pos len with h | h
      · subst h; exact absurd rfl hne
      · exact h
    cases a with
    | none => have := hn rfl; omega
    | some ad =>
      obtain ⟨b, o, s⟩ := ad
      have hs := (hf 0 h0 _ rfl).1
      simp only at hs; subst hs
      refine ⟨b, o, rfl, fun i l hi => ?_⟩
      have hx : i < len := by
        have := (List.getElem?_eq_some_iff.1 hi).1
        simpa using this
      rw [List.getElem?_map, List.getElem?_range hx] at hi
      obtain rfl := Option.some.inj hi
      exact (hf _ hx _ rfl).2.1
  · intro r hr
    obtain ⟨i, hi, rfl⟩ := List.mem_map.1 hr
    have hi' : i < len := List.mem_range.1 hi
    cases a with
    | none => have := hall rfl; omega
    | some ad => exact (hf _ hi' _ rfl).2.2
end Go.Proofs.YtnekmmknjhflgaaDoor
