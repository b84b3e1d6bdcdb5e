/- DERIVED. Arguments that are lists of files, or trees. -/
import Derived.Test.YtjcimajkjnjdpabGreatDoorTreeRow
import Derived.Test.YtjcimajkjnjdpabGreatDoorMBase
namespace Go.Proofs.YtjcimajkjnjdpabGreatDoor
open Go.RowKit Go.ChangeShapes Go.WideShapes
set_option linter.unusedVariables false

theorem cells_two {w : World} {a : Addr} {cs : List Value} (h : w.cells? 0 a 2 = some cs) : ∃ u v, cs = [u, v] ∧ w.cell? a = some u ∧ w.cell? (a.add 1) = some v := by
  unfold World.cells? at h
  rw [if_pos (Nat.zero_le _)] at h
  simp [List.range, List.range.loop] at h
  rw [show a.add 0 = a from by simp [Addr.add]] at h
  cases hc : w.cell? a with
  | none => rw [hc] at h; simp at h
  | some u =>
    cases hd : w.cell? (a.add 1) with
    | none => rw [hc, hd] at h; simp at h
    | some v =>
      rw [hc, hd] at h
      simp at h
      exact ⟨u, v, h.symm, rfl, rfl⟩
theorem file_of_arg {H : Type} {enc : TypeId × Value → H} {w : World} {fuel : Nat} {u v : Value} (h : Arg enc Tryz.prog w fuel 35 [u, v]) :
    ∃ p : Pr, u = strV p.1 ∧ v = strV p.2 ∧ p.1.length ≤ 140737488351232 ∧ p.2.length ≤ 140737488351232 := by
  obtain ⟨_, hf⟩ := h.struct Tryz.underlying35
  have f0 : Arg enc Tryz.prog w (fuel - 1) 9 (List.take (Tryz.prog.cellsOf 9) [u, v]) := hf 0 _ rfl
  have f1 : Arg enc Tryz.prog w (fuel - 1) 9 (List.take (Tryz.prog.cellsOf 9) [v]) := hf 1 _ rfl
  rw [show Tryz.prog.cellsOf 9 = 1 from by kernel_rfl] at f0 f1
  simp only [List.take_succ_cons, List.take_zero] at f0 f1
  obtain ⟨s, e0, h0⟩ := f0.string Tryz.underlying9
  obtain ⟨r, e1, h1⟩ := f1.string Tryz.underlying9
  simp only [List.cons.injEq, and_true] at e0 e1
  exact ⟨(s.data.toList, r.data.toList), by rw [e0]; unfold strV; cases s; simp, by rw [e1]; unfold strV; cases r; simp, by simpa using h0, by simpa using h1⟩
structure Sz (ps : List Pr) : Prop where
  each : ∀ p ∈ ps, p.1.length ≤ 140737488351232 ∧ p.2.length ≤ 140737488351232
  len : ps.length ≤ 4398046511104
theorem spot_first {w : World} {a : Addr} {cs : List Value} {k : Nat} (h : w.cells? 0 (a.add (0 * 2)) 2 = some cs) : a.spot = none := by
  obtain ⟨_, _, _, h1, _⟩ := cells_two h
  rw [show a.add (0 * 2) = a from by simp [Addr.add]] at h1
  exact cell_spot h1
theorem files_of_arg {H : Type} {enc : TypeId × Value → H} {w : World} {fuel : Nat} {v : Value} (h : Arg enc Tryz.prog w fuel 22 [v]) :
    ∃ (ps : List Pr) (a : Option Addr) (c : Nat), v = .slice a ps.length c ∧ RdFl w a ps ∧ Sl a ps.length c ∧ ps.length ≤ c ∧ c ≤ 4398046511104 ∧ Sz ps := by
  obtain ⟨a, len, cap, hv, hl, hm, hb, hn, hc⟩ := h.slice Tryz.underlying22
  obtain rfl : v = .slice a len cap := by simpa using hv
  have hcap : cap ≤ 4398046511104 := by
    rw [show Tryz.prog.bytesOf 35 = 32 from by kernel_rfl] at hb
    omega
  rw [show Tryz.prog.cellsOf 35 = 2 from by kernel_rfl] at hc
  have key : ∀ i, i < len → ∃ p : Pr, ∀ ad, a = some ad → ad.spot = none ∧ w.cell? ⟨ad.block, ad.off + i * 2, none⟩ = some (strV p.1) ∧ w.cell? ⟨ad.block, ad.off + i * 2 + 1, none⟩ = some (strV p.2) ∧ p.1.length ≤ 140737488351232 ∧ p.2.length ≤ 140737488351232 := by
    intro i hi
    cases a with
    | none => have := hn rfl; omega
    | some ad =>
      have hs : ad.spot = none := by
        obtain ⟨cs', h1, _⟩ := hc ad rfl 0 (by omega)
        exact spot_first (k := 0) h1
      obtain ⟨cs', h1, h2⟩ := hc ad rfl i hi
      obtain ⟨u, v, rfl, h3, h4⟩ := cells_two h1
      obtain ⟨p, rfl, rfl, p1, p2⟩ := file_of_arg h2
      obtain ⟨b, o, sp⟩ := ad
      simp only at hs; subst hs
      rw [Addr.add_lit] at h3
      rw [Addr.add_lit, Addr.add_lit] at h4
      refine ⟨p, fun ad' e => ?_⟩
      obtain rfl := Option.some.inj e
      exact ⟨rfl, h3, h4, p1, p2⟩
  obtain ⟨f, hf⟩ := Go.Deep.choose_lt (α := Pr) key
  have hall : a = none → len = 0 := fun e => by have := hn e; omega
  refine ⟨(List.range len).map f, a, cap, by simp, ?_, ⟨fun e => ⟨by simpa using hall e, hn e⟩⟩, by simpa using hl, hcap, ⟨?_, by simp; omega⟩⟩
  · intro hne
    have h0 : 0 < len := by
      rcases Nat.eq_zero_or_pos len with h | h
      · subst h; exact absurd rfl hne
      · exact h
    cases a with
    | none => have := hn rfl; omega
    | some ad =>
      obtain ⟨b, o, s⟩ := ad
      obtain ⟨hs, hc0, _⟩ := hf 0 h0 _ rfl
      simp only at hs; subst hs
      refine ⟨b, o, rfl, cell_lt hc0, fun i p hi => ?_⟩
      have hx : i < len := by
        have := (List.getElem?_eq_some_iff.1 hi).1
        simpa using this
      rw [List.getElem?_map, List.getElem?_range hx] at hi
      obtain rfl := Option.some.inj hi
      obtain ⟨_, h1, h2, _⟩ := hf _ hx _ rfl
      exact ⟨h1, h2⟩
  · intro r hr
    obtain ⟨i, hi, rfl⟩ := List.mem_map.1 hr
    have hi' : i < len := List.mem_range.1 hi
    cases a with
    | none => have := hall rfl; omega
    | some ad => exact (hf _ hi' _ rfl).2.2.2
end Go.Proofs.YtjcimajkjnjdpabGreatDoor
