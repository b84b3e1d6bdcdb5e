/- DERIVED. What the laws of Stage share. -/
import Derived.Test.YtaagkndhgicifaaGreatStgFix
import Derived.Test.YtaagkndhgicifaaGreatStgGet
namespace Go.Proofs.YtaagkndhgicifaaGreat
open Go.RowKit Go.Shelf
set_option linter.unusedVariables false
set_option linter.unusedSimpArgs false
set_option maxRecDepth 100000
theorem Keep.tr {Z Z' Z'' : Zone} {A B C : World} (h : Keep Z Z' A B) (g : Keep Z' Z'' B C) : Keep Z Z'' A C :=
 ⟨fun b hl hz => g.zone b (Nat.lt_of_lt_of_le hl h.size) (h.zone b hl hz), Nat.le_trans h.size g.size, fun a u hz hu => g.cell a u (h.zone a.block (cell_lt hu) hz) (h.cell a u hz hu)⟩
theorem Keep.rfl' {Z : Zone} {A : World} : Keep Z Z A A := ⟨fun _ _ h => h, Nat.le_refl _, fun _ _ _ h => h⟩
theorem Keep.to {Z Z' Z'' : Zone} {A B : World} (h : Keep Z Z' A B) (hz : ∀ b, Z' b → Z'' b) : Keep Z Z'' A B := ⟨fun b hl hb => hz b (h.zone b hl hb), h.size, h.cell⟩
theorem one_cellB {w : World} {b : Nat} {y : Value} {t : TypeId} (x : Value) (h : w.heap[b]? = some (.cells #[y] t (0, 0))) : (w.setCell ⟨b, 0, none⟩ x).cell? ⟨b, 0, none⟩ = some x := cOh (set_at 0 x h (ds := #[x]) (by simp)) 0
theorem Keep.low {n : Nat} {A B : World} (h : Below n A B) : Keep (fun b => b < n) (fun b => b < n) A B := Keep.of_block (fun _ _ h => h) h.size (fun b _ hz => h.block b hz)
def FixQ (st : St) (left : Int) (w w' : World) (po : Option Addr) (e0 : Int) : Prop :=
 (po = none ∧ e0 = 60 ∧ fixT st left = none) ∨ ∃ Tb es l m, po = some ⟨Tb, 0, none⟩ ∧ e0 = 0 ∧ fixT st left = some (es.map Prod.fst, l, m) ∧ StgAt (zNew w.heap.size) w' Tb es l m
theorem FixP.q {st : St} {left : Int} {w w' : World} {e : Ending} (h : FixP st left w e w') : Below w.heap.size w w' ∧ ∃ po e0, e = .returned (.tuple #[.pointer po, .int .i64 e0]) ∧ FixQ st left w w' po e0 := by
 obtain ⟨h1, h2⟩ := h
 cases hf : fixT st left with
 | none =>
  rw [hf] at h2
  exact ⟨h1, none, 60, h2, .inl ⟨rfl, rfl, hf⟩⟩
 | some r =>
  obtain ⟨L, l, m⟩ := r
  rw [hf] at h2
  obtain ⟨Tb, es, h3, h4, h5⟩ := h2
  exact ⟨h1, Option.some ⟨Tb, 0, none⟩, 0, h3, .inr ⟨Tb, es, l, m, rfl, rfl, by rw [hf, h4], h5⟩⟩
theorem getE_mem {L : List Ent} {x : Ent} (hn : (L.map Ent.pkg).Nodup) (hx : x ∈ L) : getE L x.pkg = (x, true) := by
 unfold getE
 cases hf : L.find? (fun y => decide (y.pkg = x.pkg)) with
 | none =>
  have := List.find?_eq_none.1 hf x hx
  simp at this
 | some y =>
  have h1 := List.mem_of_find?_eq_some hf
  have h2 : y.pkg = x.pkg := by simpa using List.find?_some hf
  obtain ⟨i, hi⟩ := List.mem_iff_getElem?.1 h1
  obtain ⟨j, hj⟩ := List.mem_iff_getElem?.1 hx
  obtain ⟨hi1, hi2⟩ := gEs.1 hi
  obtain ⟨hj1, hj2⟩ := gEs.1 hj
  have h3 : (L.map Ent.pkg)[i]'(by rw [List.length_map]; exact hi1) = (L.map Ent.pkg)[j]'(by rw [List.length_map]; exact hj1) := by rw [List.getElem_map, List.getElem_map, hi2, hj2]; exact h2
  have : i = j := (List.getElem_inj hn).1 h3
  subst this
  rw [hi] at hj
  rw [sIj hj]
theorem ents_mem {Z : Zone} {w : World} {v : Value} {es : List EV} (h : EntsAt Z w v es) : ∀ x ∈ es, PkgsAt Z w (withV x) x.1.choice.2 := by
 intro x hx
 obtain ⟨a, c, -, -, h3⟩ := h
 obtain ⟨b, o, -, -, -, hc⟩ := h3 (fun e => by rw [e] at hx; cases hx)
 obtain ⟨i, hi⟩ := List.mem_iff_getElem?.1 hx
 exact (hc i x hi).1
end Go.Proofs.YtaagkndhgicifaaGreat
