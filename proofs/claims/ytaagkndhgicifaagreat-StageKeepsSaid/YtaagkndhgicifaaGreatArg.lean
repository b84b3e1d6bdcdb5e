/- DERIVED. An argument's reading, opened shape by shape, with the form's reach. No program in sight. -/
import Derived.SizedLaws
import Derived.Deep.Slices
import Derived.ProofKit
namespace Go.Proofs.YtaagkndhgicifaaGreat
open Go.RowKit Go.ChangeShapes Go.WideShapes
def Arg {H : Type} (enc : TypeId × Value → H) (P : Program) (w : World) (fuel : Nat) (t : TypeId) (cs : List Value) : Prop :=
 ∃ x, DataW.trod enc P w 0 (fun _ => true) true fuel t cs = some x ∧ ∀ n ∈ x.1.weights P t, n ≤ 140737488351232
section
variable {H : Type} {enc : TypeId × Value → H} {P : Program} {w : World} {fuel : Nat} {t : TypeId} {cs : List Value}
theorem arg_of {ts : List TypeId} {ds : List (DataW H)} (hz : (DataW.weightsEach P ts ds).all (· ≤ reachBytes) = true) {j : Nat} {d : DataW H} (ht : ts[j]? = some t) (hd : ds[j]? = some d) {v : Value} {p : List MemPlace}
  (h : DataW.Trod enc P w 0 (fun _ => true) true t v d p) : ∃ fuel, Arg enc P w fuel t v.cells.toList := by
 obtain ⟨fuel, hf⟩ := h
 refine ⟨fuel, _, hf, fun n hn => ?_⟩
 have := List.all_eq_true.1 hz n (DataW.weights_mem_each ht hd n hn)
 exact of_decide_eq_true this
theorem Arg.bool (h : Arg enc P w fuel t cs) (ht : P.underlying t = some .bool) : ∃ b, cs = [.bool b] := by
 obtain ⟨x, hx, _⟩ := h
 obtain ⟨b, hb, _⟩ := DataW.trod_bool ht hx
 exact ⟨b, hb⟩
theorem Arg.int (h : Arg enc P w fuel t cs) {k : IntKind} (ht : P.underlying t = some (.int k)) : ∃ n, cs = [.int k n] ∧ (Lit.int k n).wf = true := by
 obtain ⟨x, hx, _⟩ := h
 obtain ⟨n, hn, _, hw⟩ := DataW.trod_int ht hx
 exact ⟨n, hn, hw⟩
theorem Arg.string (h : Arg enc P w fuel t cs) (ht : P.underlying t = some .string) : ∃ s : ByteArray, cs = [.string s] ∧ s.size ≤ 140737488351232 := by
 obtain ⟨x, hx, hr⟩ := h
 obtain ⟨s, hs, hx', _⟩ := DataW.trod_string ht hx
 subst hx'
 refine ⟨s, hs, ?_⟩
 have := hr s.data.toList.length (by simp [DataW.weights])
 simpa using this
theorem weightsAll_mem {e : TypeId} {d : DataW H} : ∀ {l : List (DataW H)}, d ∈ l → ∀ n ∈ d.weights P e, n ∈ DataW.weightsAll P e l
 | x :: l, hd, n, hn => by
  simp only [DataW.weightsAll, List.mem_append]
  rcases List.mem_cons.1 hd with rfl | hd
  ·exact .inl hn
  ·exact .inr (weightsAll_mem hd n hn)
theorem Arg.slice (h : Arg enc P w fuel t cs) {e : TypeId} (ht : P.underlying t = some (.slice e)) :
  ∃ a len cap, cs = [.slice a len cap] ∧ len ≤ cap ∧ cap ≤ maxLen ∧ cap * P.bytesOf e ≤ 140737488351232 ∧ (a = none → cap = 0) ∧
   ∀ ad, a = some ad → ∀ i, i < len → ∃ cs', w.cells? 0 (ad.add (i * P.cellsOf e)) (P.cellsOf e) = some cs' ∧ Arg enc P w (fuel - 1) e cs' := by
 obtain ⟨x, hx, hr⟩ := h
 rcases DataW.trod_slice ht hx with ⟨rfl, _⟩ | ⟨a, len, cap, elems, rest, n, rfl, rfl, hxx, _, hl, hm, hlen, hel, hsp, _⟩
 ·exact ⟨none, 0, 0, rfl, Nat.le_refl _, Nat.zero_le _, by omega, fun _ => rfl, fun ad h => by cases h⟩
 ·obtain ⟨hrest, _⟩ := hsp rfl
  subst hxx
  refine ⟨some a, len, cap, rfl, hl, hm, ?_, fun h => (Option.some_ne_none _ h).elim, fun ad ha i hi => ?_⟩
  ·have := hr ((elems.length + rest.length) * P.bytesOf e) (by simp [DataW.weights, ht])
   rw [hlen, hrest, show len + (cap - len) = cap from by omega] at this
   exact this
  ·obtain rfl := Option.some.inj ha
   have := hel i hi
   rw [List.getElem?_eq_getElem (by omega)] at this
   obtain ⟨cs', h1, h2⟩ := Option.bind_eq_some_iff.1 this
   refine ⟨cs', h1, _, h2, fun m hm => hr m ?_⟩
   simp only [DataW.weights, ht, List.mem_cons, List.mem_append]
   exact .inr (.inl (weightsAll_mem (List.mem_map.2 ⟨elems[i], List.getElem_mem _, rfl⟩) m hm))
theorem weightsEach_mem {fs : List Field} {xs : List (DataW H × List MemPlace)} {j : Nat} {f : Field} {x : DataW H × List MemPlace} (hf : fs[j]? = some f) (hx : xs[j]? = some x) (n : Nat) (hn : n ∈ x.1.weights P f.type) :
  n ∈ DataW.weightsEach P (fs.map (·.type)) (xs.map (·.1)) :=
 DataW.weights_mem_each (j := j) (by rw [List.getElem?_map, hf]; rfl) (by rw [List.getElem?_map, hx]; rfl) n hn
theorem Arg.struct (h : Arg enc P w fuel t cs) {fs : Array Field} (ht : P.underlying t = some (.struct fs)) :
  cs.length = P.cellsOf t ∧ ∀ (j : Nat) (f : Field), fs[j]? = some f → Arg enc P w (fuel - 1) f.type ((cs.drop f.offset).take (P.cellsOf f.type)) := by
 obtain ⟨x, hx, hr⟩ := h
 obtain ⟨xs, n, hn, rfl, hl, hlen, hf⟩ := DataW.trod_struct ht hx
 refine ⟨hl, fun j f hj => ?_⟩
 have h1 := hf j f hj
 have hjl : j < xs.length := by rw [hlen]; exact (Array.getElem?_eq_some_iff.1 hj).1
 rw [List.getElem?_eq_getElem hjl] at h1
 subst hn
 refine ⟨xs[j], h1, fun m hm => hr m ?_⟩
 simp only [DataW.weights, ht]
 exact weightsEach_mem (j := j) (by simpa using hj) (List.getElem?_eq_getElem hjl) m hm
end
end Go.Proofs.YtaagkndhgicifaaGreat
