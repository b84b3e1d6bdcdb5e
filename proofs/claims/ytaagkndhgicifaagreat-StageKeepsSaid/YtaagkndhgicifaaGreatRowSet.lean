/- DERIVED. Cells of a row that are set one behind the other; what keeps its shape. No walk. -/
import Derived.Test.YtaagkndhgicifaaGreatStgMem
namespace Go.Proofs.YtaagkndhgicifaaGreat
open Go.RowKit Go.Shelf
set_option linter.unusedVariables false
set_option maxRecDepth 100000
def KS (A B : World) : Prop := ∀ (b : Nat) (c : Array Value) (T : TypeId) (f : Nat × Nat), A.heap[b]? = some (.cells c T f) → ∃ c', B.heap[b]? = some (.cells c' T f) ∧ c'.size = c.size
theorem KS.refl (A : World) : KS A A := fun b c T f h => ⟨c, h, rfl⟩
theorem KS.trans {A B C : World} (h : KS A B) (g : KS B C) : KS A C := fun b c T f hb => by
 obtain ⟨c', h1, h2⟩ := h b c T f hb
 obtain ⟨c2, h3, h4⟩ := g b c' T f h1
 exact ⟨c2, h3, h4.trans h2⟩
theorem KS.below {A B : World} (h : Below A.heap.size A B) : KS A B := fun b c T f hb => ⟨c, (h.block b (loh hb)).trans hb, rfl⟩
theorem KS.set {A : World} {g i : Nat} {v : Value} : KS A (A.setCell ⟨g, i, none⟩ v) := fun b c T f hb => by
 by_cases e : b = g
 ·subst e
  exact ⟨_, heap_setCell_here (i := i) v hb, by simp⟩
 ·exact ⟨c, (bHs _ _ _ b e).trans hb, rfl⟩
def setN (W : World) (g : Nat) : Nat → List Value → World
 | _, [] => W
 | o, v :: vs => setN' (W.setCell ⟨g, o, none⟩ v) g (o + 1) vs
where setN' (W : World) (g : Nat) : Nat → List Value → World
 | _, [] => W
 | o, v :: vs => setN' (W.setCell ⟨g, o, none⟩ v) g (o + 1) vs
theorem setN_eq (W : World) (g o : Nat) (vs : List Value) : setN W g o vs = setN.setN' W g o vs := by cases vs <;> rfl
theorem setN'_spec {g : Nat} {T : TypeId} : ∀ (vs : List Value) (o : Nat) (W : World) (cur : Array Value), W.heap[g]? = some (.cells cur T (0, 0)) →
  (∃ cur', (setN.setN' W g o vs).heap[g]? = some (.cells cur' T (0, 0)) ∧ cur'.size = cur.size ∧ ∀ j, (j < o ∨ o + vs.length ≤ j) → cur'[j]? = cur[j]?) ∧ KS W (setN.setN' W g o vs) ∧ (∀ T', T' ≠ T → KT T' W (setN.setN' W g o vs)) ∧ ∀ N u, N ≤ g → Below N u W → Below N u (setN.setN' W g o vs)
 | [], o, W, cur, h => ⟨⟨cur, h, rfl, fun _ _ => rfl⟩, KS.refl _, fun T' _ b c f hb => hb, fun _ _ _ h => h⟩
 | v :: vs, o, W, cur, h => by
  have h1 := heap_setCell_here (i := o) v h
  obtain ⟨⟨cur', g1, g2, g3⟩, g4, g5, g6⟩ := setN'_spec vs (o + 1) _ _ h1
  refine ⟨⟨cur', g1, by simpa using g2, fun j hj => ?_⟩, KS.set.trans g4, fun T' hT => KT.trans ((KP.set (i := o) (v := v) h).kt hT) (g5 T' hT), fun N u hN hb => g6 N u hN (hb.setCell (p := ⟨g, o, none⟩) hN v)⟩
  rw [g3 j (by rw [List.length_cons] at hj; omega)]
  rw [Array.getElem?_setIfInBounds]
  rw [if_neg (by rw [List.length_cons] at hj; omega)]
theorem setN_spec {g : Nat} {T : TypeId} (vs : List Value) (o : Nat) (W : World) (cur : Array Value) (h : W.heap[g]? = some (.cells cur T (0, 0))) :
  (∃ cur', (setN W g o vs).heap[g]? = some (.cells cur' T (0, 0)) ∧ cur'.size = cur.size ∧ ∀ j, (j < o ∨ o + vs.length ≤ j) → cur'[j]? = cur[j]?) ∧ KS W (setN W g o vs) ∧ (∀ T', T' ≠ T → KT T' W (setN W g o vs)) ∧ ∀ N u, N ≤ g → Below N u W → Below N u (setN W g o vs) := by
 rw [setN_eq]
 exact setN'_spec vs o W cur h
theorem set4 (W : World) (g o : Nat) (x0 x1 x2 x3 : Value) : ((((W.setCell ⟨g, o, none⟩ x0).setCell ⟨g, o + 1, none⟩ x1).setCell ⟨g, o + 2, none⟩ x2).setCell ⟨g, o + 3, none⟩ x3) = setN W g o [x0, x1, x2, x3] := rfl
theorem set10 (W : World) (g o : Nat) (x0 x1 x2 x3 x4 x5 x6 x7 x8 x9 : Value) : ((((((((((W.setCell ⟨g, o, none⟩ x0).setCell ⟨g, o + 1, none⟩ x1).setCell ⟨g, o + 2, none⟩ x2).setCell ⟨g, o + 3, none⟩ x3).setCell ⟨g, o + 4, none⟩ x4).setCell ⟨g, o + 5, none⟩ x5).setCell ⟨g, o + 6, none⟩ x6).setCell ⟨g, o + 7, none⟩ x7).setCell ⟨g, o + 8, none⟩ x8).setCell ⟨g, o + 9, none⟩ x9) = setN W g o [x0, x1, x2, x3, x4, x5, x6, x7, x8, x9] := rfl
def RowS (T : TypeId) (sz base : Nat) (W : World) (a : Option Addr) (n : Nat) : Prop := n = 0 ∨ ∃ g cur, a = some ⟨g, 0, none⟩ ∧ base ≤ g ∧ W.heap[g]? = some (.cells cur T (0, 0)) ∧ n * sz ≤ cur.size
theorem RowS.ks {T : TypeId} {sz base : Nat} {A B : World} {a : Option Addr} {n : Nat} (h : RowS T sz base A a n) (k : KS A B) : RowS T sz base B a n := by
 rcases h with h | ⟨g, cur, h1, h2, h3, h4⟩
 ·exact .inl h
 ·obtain ⟨c', h5, h6⟩ := k g cur T (0, 0) h3
  exact .inr ⟨g, c', h1, h2, h5, by omega⟩
theorem RowS.own {T : TypeId} {sz base : Nat} {W : World} {a : Option Addr} {n m c : Nat} {xs : List Value} (h : ownsC W base T sz (.slice a n c) m xs) : RowS T sz base W a n := by
 rcases h.2 with ⟨e, -⟩ | ⟨g, cap, cur, e, hb, hg, h1, h2, h3, h4⟩
 ·obtain ⟨-, rfl, -⟩ := Value.slice.inj e
  exact .inl rfl
 ·obtain ⟨rfl, rfl, rfl⟩ := Value.slice.inj e
  exact .inr ⟨g, cur, rfl, hb, hg, Nat.le_trans (Nat.mul_le_mul_right _ h1) h3⟩
end Go.Proofs.YtaagkndhgicifaaGreat
