/- DERIVED. The script of calls, opened as an argument. -/
import Derived.Test.YtebeafpoblhlhaaRibGreat
import Derived.Test.YtebeafpoblhlhaaRibOpen
namespace Go.Proofs.Ytebeafpoblhlhaa
open Go.RowKit Go.ChangeShapes Go.WideShapes
set_option linter.unusedVariables false

instance : Inhabited CallD := ⟨⟨0, 0, 0, []⟩⟩
theorem call_of_arg {H : Type} {enc : TypeId × Value → H} {w : World} {fuel : Nat} {cs : List Value} (h : Arg enc Try.prog w fuel 43 cs) :
    ∃ (l : CallD) (ai : Option Addr) (ci : Nat), cs = [.int .i64 l.kind, .int .i64 l.n, .int .i64 l.k, .slice ai l.b.length ci] ∧ Rd w (.slice ai l.b.length ci) (bytesV l.b) ∧ l.b.length ≤ 140737488351232 ∧ l.n < 9223372036854775808 := by
  obtain ⟨hl, hs⟩ := h.struct Try.underlying43
  rw [show Try.prog.cellsOf 43 = 4 from by kernel_rfl] at hl
  obtain ⟨x0, x1, x2, x3, rfl⟩ : ∃ x0 x1 x2 x3, cs = [x0, x1, x2, x3] := by
    match cs, hl with
    | [x0, x1, x2, x3], _ => exact ⟨x0, x1, x2, x3, rfl⟩
  have k3 : Try.prog.cellsOf 3 = 1 := by kernel_rfl
  have k22 : Try.prog.cellsOf 22 = 1 := by kernel_rfl
  have c0 : Arg enc Try.prog w (fuel - 1) 3 [x0] := by have : Arg enc Try.prog w (fuel - 1) 3 (List.take (Try.prog.cellsOf 3) (List.drop 0 [x0, x1, x2, x3])) := hs 0 _ rfl; rw [k3] at this; exact this
  have c1 : Arg enc Try.prog w (fuel - 1) 3 [x1] := by have : Arg enc Try.prog w (fuel - 1) 3 (List.take (Try.prog.cellsOf 3) (List.drop 1 [x0, x1, x2, x3])) := hs 1 _ rfl; rw [k3] at this; exact this
  have c2 : Arg enc Try.prog w (fuel - 1) 3 [x2] := by have : Arg enc Try.prog w (fuel - 1) 3 (List.take (Try.prog.cellsOf 3) (List.drop 2 [x0, x1, x2, x3])) := hs 2 _ rfl; rw [k3] at this; exact this
  have c3 : Arg enc Try.prog w (fuel - 1) 22 [x3] := by have : Arg enc Try.prog w (fuel - 1) 22 (List.take (Try.prog.cellsOf 22) (List.drop 3 [x0, x1, x2, x3])) := hs 3 _ rfl; rw [k22] at this; exact this
  obtain ⟨n0, e0, w0⟩ := c0.int Try.underlying3
  obtain ⟨n1, e1, w1⟩ := c1.int Try.underlying3
  obtain ⟨n2, e2, w2⟩ := c2.int Try.underlying3
  obtain ⟨b, ai, ci, e3, h4, h5⟩ := Rd.of_arg c3
  obtain rfl : x0 = _ := (List.cons.inj e0).1
  obtain rfl : x1 = _ := (List.cons.inj e1).1
  obtain rfl : x2 = _ := (List.cons.inj e2).1
  subst e3
  refine ⟨⟨n0, n1, n2, b⟩, ai, ci, rfl, h4, h5, ?_⟩
  have : -9223372036854775808 ≤ n1 ∧ n1 ≤ 9223372036854775807 := by simpa [Lit.wf, IntKind.min, IntKind.max, IntKind.bits, IntKind.signed] using w1
  show n1 < _
  omega
theorem calls_of_arg {H : Type} {enc : TypeId × Value → H} {w : World} {fuel : Nat} {v : Value} (h : Arg enc Try.prog w fuel 38 [v]) :
    ∃ (ls : List CallD) (a : Option Addr) (c : Nat), v = .slice a ls.length c ∧ RdCalls w a ls ∧ ls.length ≤ 140737488351232 := by
  obtain ⟨a, len, cap, hv, hl, hm, hb, hn, hc⟩ := h.slice Try.underlying38
  obtain rfl : v = .slice a len cap := by simpa using hv
  have hlen : len ≤ 140737488351232 := by
    rw [show Try.prog.bytesOf 43 = 48 from by kernel_rfl] at hb
    omega
  have key : ∀ i, i < len → ∃ l : CallD, ∀ ad, a = some ad → ad.spot = none ∧ ∃ ai ci, (∀ k, k < 4 → w.cell? ⟨ad.block, ad.off + i * 4 + k, none⟩ = ([.int .i64 l.kind, .int .i64 l.n, .int .i64 l.k, .slice ai l.b.length ci] : List Value)[k]?) ∧ Rd w (.slice ai l.b.length ci) (bytesV l.b) ∧ l.b.length ≤ 140737488351232 ∧ l.n < 9223372036854775808 := by
    intro i hi
    cases a with
    | none => have := hn rfl; omega
    | some ad =>
      obtain ⟨cs', h1, h2⟩ := hc ad rfl i hi
      rw [show Try.prog.cellsOf 43 = 4 from by kernel_rfl] at h1
      obtain ⟨l, ai, ci, rfl, h4, h5, h6⟩ := call_of_arg h2
      obtain ⟨_, _, h3⟩ := World.cells?_some h1
      have hs : ad.spot = none := by
        obtain ⟨cs0, q1, q2⟩ := hc ad rfl 0 (by omega)
        rw [show Try.prog.cellsOf 43 = 4 from by kernel_rfl] at q1
        obtain ⟨l0, ai0, ci0, rfl, _⟩ := call_of_arg q2
        obtain ⟨_, _, q3⟩ := World.cells?_some q1
        have := cell_spot ((q3 0 (by omega)).trans rfl)
        rw [show (ad.add (0 * 4)).add 0 = ad from by simp [Addr.add]] at this
        exact this
      obtain ⟨b, o, s⟩ := ad
      simp only at hs; subst hs
      refine ⟨l, fun ad' e => ?_⟩
      obtain rfl := Option.some.inj e
      refine ⟨rfl, ai, ci, fun k hk => ?_, h4, h5, h6⟩
      have := h3 k hk
      rwa [Addr.add_lit, Addr.add_lit] at this
  obtain ⟨f, hf⟩ := Go.Deep.choose_lt (α := CallD) key
  refine ⟨(List.range len).map f, a, cap, by simp, ?_, by simpa using hlen⟩
  intro hne
  have h0 : 0 < len := by
    rcases Nat.eq_zero_or_pos len with h | h
    · subst h; exact absurd rfl hne
    · exact h
  cases a with
  | none => have := hn rfl; omega
  | some ad =>
    obtain ⟨b, o, s⟩ := ad
    have hs := (hf 0 h0 _ rfl).1
    simp only at hs; subst hs
    refine ⟨b, o, rfl, fun i l hi => ?_⟩
    have hx : i < len := by
      have := (List.getElem?_eq_some_iff.1 hi).1
      simpa using this
    rw [List.getElem?_map, List.getElem?_range hx] at hi
    obtain rfl := Option.some.inj hi
    obtain ⟨_, ai, ci, h3, h4, h5, h6⟩ := hf _ hx _ rfl
    exact ⟨ai, ci, h3 0 (by omega), h3 1 (by omega), h3 2 (by omega), h3 3 (by omega), h4, h5, h6⟩
end Go.Proofs.Ytebeafpoblhlhaa
