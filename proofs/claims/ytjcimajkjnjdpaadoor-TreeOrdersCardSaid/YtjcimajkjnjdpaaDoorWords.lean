/- DERIVED. Lists of texts in memory, continued. -/
import Derived.Test.YtjcimajkjnjdpaaDoorWordsA
namespace Go.Proofs.YtjcimajkjnjdpaaDoor
open Go.RowKit Go.ChangeShapes Go.WideShapes
set_option linter.unusedVariables false

theorem one_src (w : World) (r : List UInt8) (t : TypeId) : Src Tryd.prog 1 58 (.slice (some ⟨w.heap.size, 0, none⟩) 1 1) 1 [strV r] (w.alloc (.cells #[strV r] t)) := by
  have h : Rd (w.alloc (.cells #[strV r] t)) (.slice (some ⟨w.heap.size, 0, none⟩) 1 1) [strV r] := by
    refine ⟨_, 1, rfl, Nat.le_refl _, fun h => (Option.some_ne_none _ h).elim, fun ad e j u hj => ?_⟩
    obtain rfl := Option.some.inj e
    rw [Addr.add_lit, Nat.zero_add, cell_of_heap (heap_alloc_new w _)]
    simpa using hj
  exact h.src Tryd.underlying58 (strsV_one [r])
set_option maxRecDepth 100000 in
theorem strs_of_arg {H : Type} {enc : TypeId × Value → H} {w : World} {fuel : Nat} {v : Value} (h : Arg enc Tryd.prog w fuel 58 [v]) :
    ∃ (ls : List (List UInt8)) (a : Option Addr) (c : Nat), v = .slice a ls.length c ∧ RdStrs w a ls ∧ ls.length ≤ 140737488351232 ∧ ∀ r ∈ ls, r.length ≤ 140737488351232 := by
  obtain ⟨a, len, cap, hv, hl, hm, hb, hn, hc⟩ := h.slice Tryd.underlying58
  obtain rfl : v = .slice a len cap := by simpa using hv
  have hlen : len ≤ 140737488351232 := by
    rw [show Tryd.prog.bytesOf 9 = 16 from by kernel_rfl] at hb
    omega
  have key : ∀ i, i < len → ∃ l : List UInt8, ∀ ad, a = some ad → ad.spot = none ∧ w.cell? ⟨ad.block, ad.off + i, none⟩ = some (.string ⟨l.toArray⟩) ∧ l.length ≤ 140737488351232 := by
    intro i hi
    cases a with
    | none => have := hn rfl; omega
    | some ad =>
      have hs : ad.spot = none := by
        obtain ⟨cs', h1, _⟩ := hc ad rfl 0 (by omega)
        rw [show Tryd.prog.cellsOf 9 = 1 from by kernel_rfl] at h1
        obtain ⟨v, rfl, h3⟩ := cells_one h1
        rw [show ad.add (0 * 1) = ad from by simp [Addr.add]] at h3
        exact cell_spot h3
      obtain ⟨cs', h1, h2⟩ := hc ad rfl i hi
      rw [show Tryd.prog.cellsOf 9 = 1 from by kernel_rfl, Nat.mul_one] at h1
      obtain ⟨v, rfl, h3⟩ := cells_one h1
      obtain ⟨s, e, hsz⟩ := h2.string Tryd.underlying9
      obtain rfl : v = .string s := by simpa using e
      obtain ⟨b, o, sp⟩ := ad
      simp only at hs; subst hs
      rw [Addr.add_lit] at h3
      refine ⟨s.data.toList, fun ad' e => ?_⟩
      obtain rfl := Option.some.inj e
      exact ⟨rfl, h3, by simpa using hsz⟩
  obtain ⟨f, hf⟩ := Go.Deep.choose_lt (α := List UInt8) key
  have hall : a = none → len = 0 := fun e => by have := hn e; omega
  refine ⟨(List.range len).map f, a, cap, by simp, ?_, by simpa using hlen, ?_⟩
  · intro hne
    have h0 : 0 < len := by
      rcases Nat.eq_zero_or_pos len with h | h
      · subst h; exact absurd rfl hne
      · exact h
    cases a with
    | none => have := hn rfl; omega
    | some ad =>
      obtain ⟨b, o, s⟩ := ad
      have hs := (hf 0 h0 _ rfl).1
      simp only at hs; subst hs
      refine ⟨b, o, rfl, fun i l hi => ?_⟩
      have hx : i < len := by
        have := (List.getElem?_eq_some_iff.1 hi).1
        simpa using this
      rw [List.getElem?_map, List.getElem?_range hx] at hi
      obtain rfl := Option.some.inj hi
      exact (hf _ hx _ rfl).2.1
  · intro r hr
    obtain ⟨i, hi, rfl⟩ := List.mem_map.1 hr
    have hi' : i < len := List.mem_range.1 hi
    cases a with
    | none => have := hall rfl; omega
    | some ad => exact (hf _ hi' _ rfl).2.2
end Go.Proofs.YtjcimajkjnjdpaaDoor
