/- DERIVED. Texts of this claim, put together: SolArg, SolBeg0. -/
import Derived.Laws.IdiomArrays
import Derived.Test.YtaagkndhgicifaaGreatSv13
namespace Go.Proofs.YtaagkndhgicifaaGreat
open Go.RowKit Go.ChangeShapes Go.WideShapes
set_option linter.unusedVariables false
set_option maxRecDepth 100000
instance : Inhabited Rc := ⟨⟨([], 0, 0, 0), ([], []), [], []⟩⟩
section
variable {H : Type} {enc : TypeId × Value → H} {w : World} {fuel : Nat}
theorem row_of_arg {α : Type} [Inhabited α] {P : Program} {st e : TypeId} {k bo : Nat} {R : α → List Value → Prop} {v : Value} (h : Arg enc P w fuel st [v]) (hu : P.underlying st = some (.slice e)) (hk : P.cellsOf e = k) (hk0 : 0 < k)
  (hbo : P.bytesOf e = bo) (hb16 : 8 ≤ bo) (hE : ∀ cs, cs.length = k → Arg enc P w (fuel - 1) e cs → ∃ x, R x cs) :
  ∃ (xs : List α) (a : Option Addr) (c : Nat), v = .slice a xs.length c ∧ xs.length ≤ c ∧ c ≤ maxLen ∧ c * bo ≤ 140737488351232 ∧ (a = none → c = 0) ∧ (∀ x ∈ xs, ∃ cs, R x cs) ∧
   (xs ≠ [] → ∃ b o, a = some ⟨b, o, none⟩ ∧ b < w.heap.size ∧ ∀ i x, xs[i]? = some x → ∃ cs, R x cs ∧ cs.length = k ∧ ∀ j u, cs[j]? = some u → w.cell? ⟨b, o + i * k + j, none⟩ = some u) := by
 obtain ⟨a, len, cap, hv, hl, hm, hb, hn, hc⟩ := h.slice hu
 obtain rfl : v = .slice a len cap := by simpa using hv
 rw [hk] at hc
 rw [hbo] at hb
 have key : ∀ i, i < len → ∃ x : α, ∀ ad, a = some ad → ad.spot = none ∧ ad.block < w.heap.size ∧ ∃ cs, R x cs ∧ cs.length = k ∧ ∀ j u, cs[j]? = some u → w.cell? ⟨ad.block, ad.off + i * k + j, none⟩ = some u := by
  intro i hi
  cases a with
  | none => have := hn rfl; omega
  | some ad =>
   obtain ⟨cs, h1, h2⟩ := hc ad rfl i hi
   obtain ⟨_, hcl, hce⟩ := World.cells?_some h1
   obtain ⟨x, hx⟩ := hE cs hcl h2
   have hc0 := hce 0 hk0
   obtain ⟨c0, hc0'⟩ : ∃ c0, cs[0]? = some c0 := ⟨_, gEg (by omega)⟩
   rw [hc0'] at hc0
   obtain ⟨cs0, h10, -⟩ := hc ad rfl 0 (by omega)
   obtain ⟨_, hcl0, hce0⟩ := World.cells?_some h10
   have hc00 := hce0 0 hk0
   obtain ⟨c00, hc00'⟩ : ∃ c0, cs0[0]? = some c0 := ⟨_, gEg (by omega)⟩
   rw [hc00', show (ad.add (0 * k)).add 0 = ad from by simp [Addr.add]] at hc00
   have hs : ad.spot = none := cell_spot hc00
   have hlt : ad.block < w.heap.size := cell_lt hc00
   refine ⟨x, fun ad' e => ?_⟩
   obtain rfl := sIj e
   refine ⟨hs, hlt, cs, hx, hcl, fun j u hj => ?_⟩
   have hj' := hce j (by have := (gEs.1 hj).1; omega)
   rw [hj] at hj'
   obtain ⟨b, o, sp⟩ := ad
   simp only at hs; subst hs
   rw [Addr.add_lit, Addr.add_lit] at hj'
   exact hj'
 obtain ⟨f, hf⟩ := Go.Deep.choose_lt (α := α) key
 have hall : a = none → len = 0 := fun e => by have := hn e; omega
 refine ⟨(List.range len).map f, a, cap, by simp, by simpa using hl, hm, hb, hn, ?_, fun hne => ?_⟩
 ·intro x hx
  obtain ⟨i, hi, rfl⟩ := List.mem_map.1 hx
  have hi' : i < len := List.mem_range.1 hi
  cases a with
  | none => have := hall rfl; omega
  | some ad =>
   obtain ⟨_, _, cs, h1, _⟩ := hf _ hi' _ rfl
   exact ⟨cs, h1⟩
 ·have h0 : 0 < len := by
   rcases Nat.eq_zero_or_pos len with h | h
   ·subst h; exact absurd rfl hne
   ·exact h
  cases a with
  | none => have := hn rfl; omega
  | some ad =>
   obtain ⟨b, o, s⟩ := ad
   obtain ⟨hs, hlt, _⟩ := hf 0 h0 _ rfl
   simp only at hs; subst hs
   refine ⟨b, o, rfl, hlt, fun i p hi => ?_⟩
   have hx : i < len := by
    have := (gEs.1 hi).1
    simpa using this
   rw [List.getElem?_map, List.getElem?_range hx] at hi
   obtain rfl := sIj hi
   obtain ⟨_, _, h1⟩ := hf _ hx _ rfl
   exact h1
theorem str_of_arg {u : Value} (h : Arg enc Tryz.prog w fuel 9 [u]) : ∃ s : List UInt8, u = strV s ∧ s.length ≤ 140737488351232 := by
 obtain ⟨s, e0, h0⟩ := h.string Tryz.underlying9
 simp only [List.cons.injEq, and_true] at e0
 exact ⟨s.data.toList, by rw [e0]; unfold strV; cases s; simp, by simpa using h0⟩
theorem int_of_arg {u : Value} (h : Arg enc Tryz.prog w fuel 3 [u]) : ∃ n : Int, u = .int .i64 n ∧ (Lit.int .i64 n).wf = true := by
 obtain ⟨n, e, hw⟩ := h.int Tryz.underlying3
 simp only [List.cons.injEq, and_true] at e
 exact ⟨n, e, hw⟩
theorem bool_of_arg {u : Value} (h : Arg enc Tryz.prog w fuel 4 [u]) : ∃ b, u = .bool b := by
 obtain ⟨b, e⟩ := h.bool Tryz.underlying4
 simp only [List.cons.injEq, and_true] at e
 exact ⟨b, e⟩
theorem ver_of_arg {u v x : Value} (h : Arg enc Tryz.prog w fuel 39 [u, v, x]) : ∃ n : Ver, [u, v, x] = [.int .i64 n.1, .int .i64 n.2.1, .int .i64 n.2.2] := by
 obtain ⟨y, hy, _⟩ := h
 obtain ⟨y0, y1, y2, n, _, h0, h1, h2⟩ := trod_array3 Tryz.underlying39 (by kernel_rfl) hy
 obtain ⟨a, ha, _⟩ := DataW.trod_int Tryz.underlying3 h0
 obtain ⟨b, hb, _⟩ := DataW.trod_int Tryz.underlying3 h1
 obtain ⟨c, hc, _⟩ := DataW.trod_int Tryz.underlying3 h2
 simp only [List.cons.injEq, and_true] at ha hb hc
 exact ⟨(a, b, c), by rw [ha, hb, hc]⟩
def PkC (p : Pk) (cs : List Value) : Prop := cs = pkL p ∧ p.1.length ≤ 140737488351232
theorem pk_of_arg (cs : List Value) (hl : cs.length = 4) (h : Arg enc Tryz.prog w fuel 41 cs) : ∃ p : Pk, PkC p cs := by
 obtain ⟨u, v, x, y, rfl⟩ : ∃ u v x y, cs = [u, v, x, y] := by
  rcases cs with _ | ⟨u, _ | ⟨v, _ | ⟨x, _ | ⟨y, _ | ⟨z, t⟩⟩⟩⟩⟩ <;> simp at hl
  exact ⟨u, v, x, y, rfl⟩
 obtain ⟨_, hf⟩ := h.struct Tryz.underlying41
 have f0 : Arg enc Tryz.prog w (fuel - 1) 9 (List.take (Tryz.prog.cellsOf 9) [u, v, x, y]) := hf 0 _ rfl
 have f1 : Arg enc Tryz.prog w (fuel - 1) 39 (List.take (Tryz.prog.cellsOf 39) [v, x, y]) := hf 1 _ rfl
 rw [show Tryz.prog.cellsOf 9 = 1 from by kernel_rfl] at f0
 rw [show Tryz.prog.cellsOf 39 = 3 from by kernel_rfl] at f1
 simp only [List.take_succ_cons, List.take_zero] at f0 f1
 obtain ⟨s, rfl, hs⟩ := str_of_arg f0
 obtain ⟨n, hn⟩ := ver_of_arg f1
 exact ⟨(s, n), by show strV s :: [v, x, y] = _; rw [hn]; rfl, hs⟩
theorem gap_of_arg (cs : List Value) (hl : cs.length = 2) (h : Arg enc Tryz.prog w fuel 125 cs) : ∃ g : Gap, cs = [.int .i64 g.1, .int .i64 g.2] := by
 obtain ⟨u, v, rfl⟩ : ∃ u v, cs = [u, v] := by
  rcases cs with _ | ⟨u, _ | ⟨v, _ | ⟨z, t⟩⟩⟩ <;> simp at hl
  exact ⟨u, v, rfl⟩
 obtain ⟨_, hf⟩ := h.struct Tryz.underlying125
 have f0 : Arg enc Tryz.prog w (fuel - 1) 3 (List.take (Tryz.prog.cellsOf 3) [u, v]) := hf 0 _ rfl
 have f1 : Arg enc Tryz.prog w (fuel - 1) 3 (List.take (Tryz.prog.cellsOf 3) [v]) := hf 1 _ rfl
 rw [show Tryz.prog.cellsOf 3 = 1 from by kernel_rfl] at f0 f1
 simp only [List.take_succ_cons, List.take_zero] at f0 f1
 obtain ⟨a, rfl, _⟩ := int_of_arg f0
 obtain ⟨b, rfl, _⟩ := int_of_arg f1
 exact ⟨(a, b), rfl⟩
theorem gaps_of_arg {v : Value} (h : Arg enc Tryz.prog w fuel 57 [v]) : ∃ gs, GapsAt zAll w v gs := by
 obtain ⟨gs, a, c, rfl, h1, h2, h3, h4, -, h5⟩ := row_of_arg (R := fun (g : Gap) cs => cs = [.int .i64 g.1, .int .i64 g.2]) h Tryz.underlying57 (by kernel_rfl) (by decide) (show Tryz.prog.bytesOf 125 = 16 from by kernel_rfl) (by decide) gap_of_arg
 refine ⟨gs, a, c, rfl, ⟨h1, by omega, h2, fun e => ⟨by have := h4 e; omega, h4 e⟩⟩, fun hne => ?_⟩
 obtain ⟨b, o, rfl, hlt, hc⟩ := h5 hne
 refine ⟨b, o, rfl, trivial, hlt, fun i g hi => ?_⟩
 obtain ⟨cs, rfl, -, hj⟩ := hc i g hi
 exact ⟨hj 0 _ rfl, hj 1 _ rfl⟩
def DpC (w : World) (d : Dp) (cs : List Value) : Prop := ∃ v0 v1, cs = [v0, v1] ∧ DepAt zAll w v0 v1 d
theorem dep_of_arg (cs : List Value) (hl : cs.length = 2) (h : Arg enc Tryz.prog w fuel 59 cs) : ∃ d : Dp, DpC w d cs := by
 obtain ⟨u, v, rfl⟩ : ∃ u v, cs = [u, v] := by
  rcases cs with _ | ⟨u, _ | ⟨v, _ | ⟨z, t⟩⟩⟩ <;> simp at hl
  exact ⟨u, v, rfl⟩
 obtain ⟨_, hf⟩ := h.struct Tryz.underlying59
 have f0 : Arg enc Tryz.prog w (fuel - 1) 9 (List.take (Tryz.prog.cellsOf 9) [u, v]) := hf 0 _ rfl
 have f1 : Arg enc Tryz.prog w (fuel - 1) 57 (List.take (Tryz.prog.cellsOf 57) [v]) := hf 1 _ rfl
 rw [show Tryz.prog.cellsOf 9 = 1 from by kernel_rfl] at f0
 rw [show Tryz.prog.cellsOf 57 = 1 from by kernel_rfl] at f1
 simp only [List.take_succ_cons, List.take_zero] at f0 f1
 obtain ⟨s, rfl, hs⟩ := str_of_arg f0
 obtain ⟨gs, hg⟩ := gaps_of_arg f1
 exact ⟨(s, gs), _, _, rfl, rfl, hs, hg⟩
theorem deps_of_arg {v : Value} (h : Arg enc Tryz.prog w fuel 60 [v]) : ∃ ds, DepsAt zAll w v ds := by
 obtain ⟨ds, a, c, rfl, h1, h2, h3, h4, -, h5⟩ := row_of_arg (R := DpC w) h Tryz.underlying60 (by kernel_rfl) (by decide) (show Tryz.prog.bytesOf 59 = 40 from by kernel_rfl) (by decide) dep_of_arg
 refine ⟨ds, a, c, rfl, ⟨h1, by omega, h2, fun e => ⟨by have := h4 e; omega, h4 e⟩⟩, fun hne => ?_⟩
 obtain ⟨b, o, rfl, hlt, hc⟩ := h5 hne
 refine ⟨b, o, rfl, trivial, hlt, fun i g hi => ?_⟩
 obtain ⟨cs, ⟨v0, v1, rfl, hd⟩, -, hj⟩ := hc i g hi
 exact ⟨v0, v1, hj 0 _ rfl, hj 1 _ rfl, hd⟩
theorem rec_of_arg (cs : List Value) (hl : cs.length = 8) (h : Arg enc Tryz.prog w fuel 62 cs) : ∃ r : Rc, RecAt zAll w cs r := by
 obtain ⟨u, v, x, y, t0, t1, b0, r0, rfl⟩ : ∃ u v x y t0 t1 b0 r0, cs = [u, v, x, y, t0, t1, b0, r0] := by
  rcases cs with _ | ⟨u, _ | ⟨v, _ | ⟨x, _ | ⟨y, _ | ⟨z, _ | ⟨t, _ | ⟨a, _ | ⟨b, _ | ⟨c, d⟩⟩⟩⟩⟩⟩⟩⟩⟩ <;> simp at hl
  exact ⟨u, v, x, y, z, t, a, b, rfl⟩
 obtain ⟨_, hf⟩ := h.struct Tryz.underlying62
 have f0 : Arg enc Tryz.prog w (fuel - 1) 41 (List.take (Tryz.prog.cellsOf 41) [u, v, x, y, t0, t1, b0, r0]) := hf 0 _ rfl
 have f1 : Arg enc Tryz.prog w (fuel - 1) 59 (List.take (Tryz.prog.cellsOf 59) [t0, t1, b0, r0]) := hf 1 _ rfl
 have f2 : Arg enc Tryz.prog w (fuel - 1) 60 (List.take (Tryz.prog.cellsOf 60) [b0, r0]) := hf 2 _ rfl
 have f3 : Arg enc Tryz.prog w (fuel - 1) 60 (List.take (Tryz.prog.cellsOf 60) [r0]) := hf 3 _ rfl
 rw [show Tryz.prog.cellsOf 41 = 4 from by kernel_rfl] at f0
 rw [show Tryz.prog.cellsOf 59 = 2 from by kernel_rfl] at f1
 rw [show Tryz.prog.cellsOf 60 = 1 from by kernel_rfl] at f2 f3
 simp only [List.take_succ_cons, List.take_zero] at f0 f1 f2 f3
 obtain ⟨p, hp, hp2⟩ := pk_of_arg _ rfl f0
 obtain ⟨d, v0, v1, hd, hd2⟩ := dep_of_arg _ rfl f1
 obtain ⟨bs, hb⟩ := deps_of_arg f2
 obtain ⟨rs, hr⟩ := deps_of_arg f3
 simp only [List.cons.injEq, and_true] at hd
 obtain ⟨rfl, rfl⟩ := hd
 refine ⟨⟨p, d, bs, rs⟩, t0, t1, b0, r0, ?_, hp2, hd2, hb, hr⟩
 show [u, v, x, y] ++ [t0, t1, b0, r0] = _
 rw [hp]
 rfl
theorem pkgs_of_arg {v : Value} (h : Arg enc Tryz.prog w fuel 22 [v]) : ∃ ps, PkgsAt zAll w v ps ∧ ∀ p ∈ ps, p.1.length ≤ 140737488351232 := by
 obtain ⟨ps, a, c, rfl, h1, h2, h3, h4, h6, h5⟩ := row_of_arg (R := PkC) h Tryz.underlying22 (by kernel_rfl) (by decide) (show Tryz.prog.bytesOf 41 = 40 from by kernel_rfl) (by decide) pk_of_arg
 refine ⟨ps, ⟨a, c, rfl, ⟨h1, by omega, h2, fun e => ⟨by have := h4 e; omega, h4 e⟩⟩, fun hne => ?_⟩, fun p hp => ?_⟩
 ·obtain ⟨b, o, rfl, hlt, hc⟩ := h5 hne
  refine ⟨b, o, rfl, trivial, hlt, fun i p hi j u hu => ?_⟩
  obtain ⟨cs, ⟨rfl, -⟩, -, hj⟩ := hc i p hi
  exact hj j u hu
 ·obtain ⟨cs, -, h⟩ := h6 p hp
  exact h
theorem recs_of_arg {v : Value} (h : Arg enc Tryz.prog w fuel 23 [v]) : ∃ rs, RecsAt zAll w v rs := by
 obtain ⟨rs, a, c, rfl, h1, h2, h3, h4, -, h5⟩ := row_of_arg (R := fun (r : Rc) cs => RecAt zAll w cs r) h Tryz.underlying23 (by kernel_rfl) (by decide) (show Tryz.prog.bytesOf 62 = 128 from by kernel_rfl) (by decide) rec_of_arg
 refine ⟨rs, a, c, rfl, ⟨h1, by omega, h2, fun e => ⟨by have := h4 e; omega, h4 e⟩⟩, fun hne => ?_⟩
 obtain ⟨b, o, rfl, hlt, hc⟩ := h5 hne
 refine ⟨b, o, rfl, trivial, hlt, fun i r hi => ?_⟩
 obtain ⟨cs, hr, -, hj⟩ := hc i r hi
 exact ⟨cs, hr, hj⟩
structure Pack where
 seeds : List Pk
 recs : List Rc
def PackAt (w : World) (v1 v2 : Value) (x : Pack) : Prop := PkgsAt zAll w v1 x.seeds ∧ (∀ p ∈ x.seeds, p.1.length ≤ 140737488351232) ∧ RecsAt zAll w v2 x.recs
theorem PackAt.below {w w' : World} {v1 v2 : Value} {x : Pack} (h : PackAt w v1 v2 x) (hb : Below w.heap.size w w') : PackAt w' v1 v2 x := ⟨h.1.below hb, h.2.1, h.2.2.below hb⟩
theorem pack16_of_arg (cs : List Value) (hl : cs.length = 2) (h : Arg enc Tryz.prog w fuel 25 cs) : ∃ v1 v2 x, cs = [v1, v2] ∧ PackAt w v1 v2 x := by
 obtain ⟨u, v, rfl⟩ : ∃ u v, cs = [u, v] := by
  rcases cs with _ | ⟨u, _ | ⟨v, _ | ⟨z, t⟩⟩⟩ <;> simp at hl
  exact ⟨u, v, rfl⟩
 obtain ⟨_, hf⟩ := h.struct Tryz.underlying25
 have f0 : Arg enc Tryz.prog w (fuel - 1) 22 (List.take (Tryz.prog.cellsOf 22) [u, v]) := hf 0 _ rfl
 have f1 : Arg enc Tryz.prog w (fuel - 1) 23 (List.take (Tryz.prog.cellsOf 23) [v]) := hf 1 _ rfl
 rw [show Tryz.prog.cellsOf 22 = 1 from by kernel_rfl] at f0
 rw [show Tryz.prog.cellsOf 23 = 1 from by kernel_rfl] at f1
 simp only [List.take_succ_cons, List.take_zero] at f0 f1
 obtain ⟨ps, h1, h2⟩ := pkgs_of_arg f0
 obtain ⟨rs, h3⟩ := recs_of_arg f1
 exact ⟨u, v, ⟨ps, rs⟩, rfl, h1, h2, h3⟩
theorem pack17_of_arg (cs : List Value) (hl : cs.length = 2) (h : Arg enc Tryz.prog w fuel 79 cs) : ∃ v1 v2 x, cs = [v1, v2] ∧ PackAt w v1 v2 x := by
 obtain ⟨u, v, rfl⟩ : ∃ u v, cs = [u, v] := by
  rcases cs with _ | ⟨u, _ | ⟨v, _ | ⟨z, t⟩⟩⟩ <;> simp at hl
  exact ⟨u, v, rfl⟩
 obtain ⟨_, hf⟩ := h.struct Tryz.underlying79
 have f0 : Arg enc Tryz.prog w (fuel - 1) 22 (List.take (Tryz.prog.cellsOf 22) [u, v]) := hf 0 _ rfl
 have f1 : Arg enc Tryz.prog w (fuel - 1) 23 (List.take (Tryz.prog.cellsOf 23) [v]) := hf 1 _ rfl
 rw [show Tryz.prog.cellsOf 22 = 1 from by kernel_rfl] at f0
 rw [show Tryz.prog.cellsOf 23 = 1 from by kernel_rfl] at f1
 simp only [List.take_succ_cons, List.take_zero] at f0 f1
 obtain ⟨ps, h1, h2⟩ := pkgs_of_arg f0
 obtain ⟨rs, h3⟩ := recs_of_arg f1
 exact ⟨u, v, ⟨ps, rs⟩, rfl, h1, h2, h3⟩
end
open Go.RowKit Go.Shelf
set_option linter.unusedSimpArgs false
structure Bg (w : World) (D : Nat → Prop) (wr : World) (B : Nat) (F : List Nat) (vm : Value) (st : St) : Prop where
 stk : StkAtY (fun b => ¬ D b) wr B F st
 new : ∀ b ∈ F, w.heap.size ≤ b ∧ ¬ D b
 ref : RefAt (fun b => b ∉ F ∧ ¬ D b) wr vm st
 low : ∀ b, D b → w.heap.size ≤ b ∧ b < wr.heap.size
 bel : Below w.heap.size w wr
variable {w wr wr' wa W wb : World} {D : Nat → Prop} {B : Nat} {F : List Nat} {vm vm' : Value} {st st' : St}
theorem Bg.below (h : Bg w D wr B F vm st) (hb : Below wr.heap.size wr wr') : Bg w D wr' B F vm st :=
 ⟨h.stk.below hb, h.new, h.ref.below hb, fun b hd => ⟨(h.low b hd).1, Nat.lt_of_lt_of_le (h.low b hd).2 hb.size⟩, h.bel.trans (hb.mono h.bel.size)⟩
theorem Bg.write {b7 : Nat} (h : Bg w D wr B F vm st) (hD : D b7) (hW : Ch [b7] wr W) : Bg w D W B F vm st :=
 ⟨h.stk.keepF hW.size (fun b _ hb => hb) (fun b hl hb => hW.block b hl (fun hm => by
  rw [mSg.1 hm] at hb
  rcases hb with hb | hb
  ·exact (h.new b7 hb).2 hD
  ·exact hb hD)), h.new, h.ref.keep (Keep.of_block (fun b hl hz => hz) hW.size (fun b hl hz => hW.block b hl (fun hm => hz.2 (by rw [mSg.1 hm]; exact hD)))),
  fun b hd => ⟨(h.low b hd).1, Nat.lt_of_lt_of_le (h.low b hd).2 hW.size⟩, h.bel.trans (boC hW (fun k hk => by rw [mSg.1 hk]; exact (h.low b7 hD).1) h.bel.size)⟩
theorem StkAtY.goods {Y : Zone} (h : StkAtY Y w B F st) : ∀ r ∈ st.recs, goodRc r = true := by
 intro r hr
 obtain ⟨N, vN, es, rfl, h⟩ := h
 have h1 := St.rec?_of h.ok hr
 have hent : st.ent r.pkg = some (some r) := by unfold St.ent; rw [h1]
 obtain ⟨L, hL, hx⟩ := (h.tab.iff r.pkg.1 (verNum r.pkg.2) (some r)).2 ((entOf_iff h.ok).2 hent)
 obtain ⟨e, he, hex⟩ := List.mem_map.1 hL
 obtain ⟨e1, e2⟩ := Prod.mk.inj hex
 subst e2
 obtain ⟨-, hrow⟩ := h.each e he
 obtain ⟨i, hi⟩ := List.mem_iff_getElem?.1 hx
 obtain ⟨q, hq⟩ : ∃ q, e.rows[i]? = some q := ⟨_, gEg (by rw [hrow.1]; exact (gEs.1 hi).1)⟩
 obtain ⟨-, rs, -, -, hg⟩ := hrow.2 i q _ hq hi
 exact hg
theorem StkAtY.few8 {Y : Zone} (h : StkAtY Y w B F st) : st.seeds.length ≤ 8 ∧ st.recs.length ≤ 32 := by
 obtain ⟨_, _, _, _, h⟩ := h
 exact h.few
theorem StkAtY.okay {Y : Zone} (h : StkAtY Y w B F st) : st.Ok := by
 obtain ⟨_, _, _, _, h⟩ := h
 exact h.ok
theorem Bg.mid {b7 : Nat} (h : Bg w D wr B F vm st) (hr : RefAt (zPlus (fun b => b ∉ F ∧ ¬ D b) wr.heap.size) wa vm' st') (hab : Below wr.heap.size wr wa) (hD : D b7) (hW : Ch [b7] wa W) :
  StkAtY (fun b => ¬ D b) W B F st ∧ RefAt (fun b => b ∉ F ∧ ¬ D b) W vm' st' ∧ Below w.heap.size w W := by
 have hlt := h.stk.lt
 have h1 := h.stk.below hab
 refine ⟨h1.keepF hW.size (fun b _ hb => hb) (fun b hl hb => hW.block b hl (fun hm => ?_)), hr.keep (Keep.of_block (fun b hl hz => ?_) hW.size (fun b hl hz => hW.block b hl (fun hm => ?_))), ?_⟩
 ·rw [mSg.1 hm] at hb
  rcases hb with hb | hb
  ·exact (h.new b7 hb).2 hD
  ·exact hb hD
 ·rcases hz with hz | hz
  ·exact hz
  ·exact ⟨fun hm => by have := hlt b hm; omega, fun hd => by have := (h.low b hd).2; omega⟩
 ·rw [mSg.1 hm] at hz
  rcases hz with hz | hz
  ·exact hz.2 hD
  ·have := (h.low b7 hD).2; omega
 ·have hb := h.bel.trans (hab.mono h.bel.size)
  exact hb.trans (boC hW (fun k hk => by rw [mSg.1 hk]; exact (h.low b7 hD).1) hb.size)
theorem Bg.next {c : Int} {e : Ending} (h1 : StkAtY (fun b => ¬ D b) W B F st) (h2 : RefAt (fun b => b ∉ F ∧ ¬ D b) W vm' st') (h3 : Below w.heap.size w W) (hnew : ∀ b ∈ F, w.heap.size ≤ b ∧ ¬ D b) (hlow : ∀ b, D b → w.heap.size ≤ b ∧ b < W.heap.size)
  (hs : SeedPY (fun b => ¬ D b) W B F st' c e wb) : e = .returned (.int .i64 c) ∧ (∃ F', Bg w D wb B F' vm' st') ∧ ∀ b o, D b → W.heap[b]? = some o → wb.heap[b]? = some o := by
 obtain ⟨rfl, F', g1, g2, g3⟩ := hs
 have hD : ∀ b, D b → b ∉ F := fun b hd hm => (hnew b hm).2 hd
 have k1 : ∀ b ∈ F', w.heap.size ≤ b ∧ ¬ D b := fun b hb => by
  rcases g3 b hb with hb | hb
  ·exact hnew b hb
  ·exact ⟨Nat.le_trans h3.size hb, fun hd => by have := (hlow b hd).2; omega⟩
 have k2 : ∀ b, b < W.heap.size → b ∉ F → b ∉ F' := fun b hl hz hm => by
  rcases g3 b hm with hb | hb
  ·exact hz hb
  ·omega
 exact ⟨rfl, ⟨F', g1, k1, h2.keep (Keep.of_block (fun b hl hz => ⟨k2 b hl hz.1, hz.2⟩) g2.size (fun b hl hz => g2.block b hl hz.1)), fun b hd => ⟨(hlow b hd).1, Nat.lt_of_lt_of_le (hlow b hd).2 g2.size⟩, h3.trans (boC g2 (fun k hk => (hnew k hk).1) h3.size)⟩, fun b o hd ho => (g2.block b (loh ho) (hD b hd)).trans ho⟩
theorem RefAt.empty {Z : Zone} : RefAt Z w (.agg #[.slice none 0 0, .slice none 0 0]) St.empty :=
 ⟨_, _, rfl, ⟨none, 0, rfl, ⟨Nat.le_refl _, by simp [St.empty], by unfold maxLen; omega, fun _ => ⟨rfl, rfl⟩⟩, fun h => absurd rfl h⟩, none, 0, rfl, ⟨Nat.le_refl _, by simp [St.empty], by unfold maxLen; omega, fun _ => ⟨rfl, rfl⟩⟩, fun h => absurd rfl h⟩
structure Two (w w' : World) (B : Nat) (vm : Value) (st : St) : Prop where
 own : StkOwn w w' B st
 ref : RefAt zAll w' vm st
 few : st.seeds.length ≤ 8 ∧ st.recs.length ≤ 32
 good : ∀ r ∈ st.recs, goodRc r = true
 ok : st.Ok
theorem Bg.two (h : Bg w D wr B F vm st) : Two w wr B vm st :=
 ⟨⟨F, h.stk.keepF (Nat.le_refl _) (fun _ _ _ => trivial) (fun _ _ _ => rfl), fun b hb => (h.new b hb).1, h.bel⟩, h.ref.keep ⟨fun _ _ _ => trivial, Nat.le_refl _, fun _ _ _ h => h⟩, h.stk.few8, h.stk.goods, h.stk.okay⟩
theorem Two.below (h : Two w wr B vm st) (hb : Below wr.heap.size wr wr') : Two w wr' B vm st := ⟨h.own.below hb, h.ref.below hb, h.few, h.good, h.ok⟩
theorem RecAt.old {vs : List Value} {r : Rc} (h : RecAt zAll w vs r) (hb : Below w.heap.size w wr) : RecAt (fun b => b < w.heap.size) wr vs r :=
 h.keep ⟨fun b hl _ => hl, hb.size, fun a u _ hu => bkp hb a u hu⟩
end Go.Proofs.YtaagkndhgicifaaGreat
