/- DERIVED. The arguments of the ribbon's laws, opened. -/
import Derived.Test.YtebeafpoblhlhaaRibSafe
import Derived.Test.YtebeafpoblhlhaaArg
namespace Go.Proofs.Ytebeafpoblhlhaa
open Go.RowKit Go.ChangeShapes Go.WideShapes
set_option linter.unusedVariables false

theorem cells_one {w : World} {a : Addr} {cs : List Value} (h : w.cells? 0 a 1 = some cs) : ∃ v, cs = [v] ∧ w.cell? a = some v := by
  unfold World.cells? at h
  rw [if_pos (Nat.zero_le _)] at h
  simp [List.range, List.range.loop] at h
  cases hc : w.cell? a with
  | none => rw [show a.add 0 = a from by simp [Addr.add]] at h; rw [hc] at h; simp at h
  | some v =>
    rw [show a.add 0 = a from by simp [Addr.add]] at h
    rw [hc] at h
    simp at h
    exact ⟨v, h.symm, rfl⟩
theorem cell_spot {w : World} {a : Addr} {v : Value} (h : w.cell? a = some v) : a.spot = none := by
  unfold World.cell? at h
  split at h
  · split at h
    · cases h
    · rename_i hs; simpa using hs
  · cases h
theorem Rd.of_arg {H : Type} {enc : TypeId × Value → H} {w : World} {fuel : Nat} {v : Value} (h : Arg enc Try.prog w fuel 22 [v]) :
    ∃ (l : List UInt8) (a : Option Addr) (c : Nat), v = .slice a l.length c ∧ Rd w (.slice a l.length c) (bytesV l) ∧ l.length ≤ 140737488351232 := by
  obtain ⟨a, len, cap, hv, hl, hm, hb, hn, hc⟩ := h.slice Try.underlying22
  obtain rfl : v = .slice a len cap := by simpa using hv
  have hlen : len ≤ 140737488351232 := by
    rw [show Try.prog.bytesOf 5 = 1 from by kernel_rfl] at hb
    omega
  have key : ∀ i, i < len → ∃ c : UInt8, ∀ ad, a = some ad → w.cell? (ad.add i) = some (.int .u8 c.toNat) := by
    intro i hi
    cases a with
    | none => have := hn rfl; omega
    | some ad =>
      obtain ⟨cs', h1, h2⟩ := hc ad rfl i hi
      rw [show Try.prog.cellsOf 5 = 1 from by kernel_rfl, Nat.mul_one] at h1
      obtain ⟨v, rfl, h3⟩ := cells_one h1
      obtain ⟨n, hn, hw⟩ := h2.int Try.underlying5
      obtain rfl : v = .int .u8 n := by simpa using hn
      have hb : 0 ≤ n ∧ n ≤ 255 := by simpa [Lit.wf, IntKind.min, IntKind.max, IntKind.bits, IntKind.signed] using hw
      refine ⟨UInt8.ofNat n.toNat, fun ad' e => ?_⟩
      obtain rfl := Option.some.inj e
      rw [h3]
      congr 2
      simp; omega
  obtain ⟨f, hf⟩ := Go.Deep.choose_lt (α := UInt8) key
  refine ⟨(List.range len).map f, a, cap, by simp, ?_, by simpa using hlen⟩
  refine ⟨a, cap, by simp [bytesV], by simpa [bytesV] using hl, hn, fun ad e j u hj => ?_⟩
  have hx : j < len := by
    have := (List.getElem?_eq_some_iff.1 hj).1
    simpa [bytesV] using this
  unfold bytesV at hj
  rw [List.map_map, List.getElem?_map, List.getElem?_range hx] at hj
  obtain rfl := Option.some.inj hj
  exact hf _ hx ad e
theorem rows_of_arg {H : Type} {enc : TypeId × Value → H} {w : World} {fuel : Nat} {v : Value} (h : Arg enc Try.prog w fuel 32 [v]) :
    ∃ (ls : List (List UInt8)) (a : Option Addr) (c : Nat), v = .slice a ls.length c ∧ RdRows w a ls ∧ ls.length ≤ 140737488351232 := by
  obtain ⟨a, len, cap, hv, hl, hm, hb, hn, hc⟩ := h.slice Try.underlying32
  obtain rfl : v = .slice a len cap := by simpa using hv
  have hlen : len ≤ 140737488351232 := by
    rw [show Try.prog.bytesOf 22 = 24 from by kernel_rfl] at hb
    omega
  have key : ∀ i, i < len → ∃ l : List UInt8, ∀ ad, a = some ad → ad.spot = none ∧ ∃ ai ci, w.cell? ⟨ad.block, ad.off + i, none⟩ = some (.slice ai l.length ci) ∧ Rd w (.slice ai l.length ci) (bytesV l) ∧ l.length ≤ 140737488351232 := by
    intro i hi
    cases a with
    | none => have := hn rfl; omega
    | some ad =>
      have hs : ad.spot = none := by
        obtain ⟨cs', h1, _⟩ := hc ad rfl 0 (by omega)
        rw [show Try.prog.cellsOf 22 = 1 from by kernel_rfl] at h1
        obtain ⟨v, rfl, h3⟩ := cells_one h1
        rw [show ad.add (0 * 1) = ad from by simp [Addr.add]] at h3
        exact cell_spot h3
      obtain ⟨cs', h1, h2⟩ := hc ad rfl i hi
      rw [show Try.prog.cellsOf 22 = 1 from by kernel_rfl, Nat.mul_one] at h1
      obtain ⟨v, rfl, h3⟩ := cells_one h1
      obtain ⟨l, ai, ci, rfl, h4, h5⟩ := Rd.of_arg h2
      obtain ⟨b, o, s⟩ := ad
      simp only at hs; subst hs
      rw [Addr.add_lit] at h3
      exact ⟨l, fun ad' e => by obtain rfl := Option.some.inj e; exact ⟨rfl, ai, ci, h3, h4, h5⟩⟩
  obtain ⟨f, hf⟩ := Go.Deep.choose_lt (α := List UInt8) key
  refine ⟨(List.range len).map f, a, cap, by simp, ?_, by simpa using hlen⟩
  intro hne
  have h0 : 0 < len := by
    rcases Nat.eq_zero_or_pos len with h | h
    · subst h; exact absurd rfl hne
    · exact h
  cases a with
  | none => have := hn rfl; omega
  | some ad =>
    obtain ⟨b, o, s⟩ := ad
    have hs := (hf 0 h0 _ rfl).1
    simp only at hs; subst hs
    refine ⟨b, o, rfl, fun i l hi => ?_⟩
    have hx : i < len := by
      have := (List.getElem?_eq_some_iff.1 hi).1
      simpa using this
    rw [List.getElem?_map, List.getElem?_range hx] at hi
    obtain rfl := Option.some.inj hi
    exact (hf _ hx _ rfl).2
end Go.Proofs.Ytebeafpoblhlhaa
