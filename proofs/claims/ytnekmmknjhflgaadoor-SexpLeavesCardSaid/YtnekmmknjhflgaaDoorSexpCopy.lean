/- DERIVED. The reference's Copy. -/
import Derived.Test.YtnekmmknjhflgaaDoorSexpLaws
namespace Go.Proofs.YtnekmmknjhflgaaDoor
open Go.RowKit
set_option linter.unusedVariables false

mutual
/-- A node all of whose lists lie in blocks of p. -/
def NodeP (p : Nat → Prop) (w : World) : T → Value → Value → Value → Prop
  | .mk leaf atom kids, v0, v1, v2 => v0 = .bool leaf ∧ v1 = strV atom ∧ atom.length ≤ 140737488351232 ∧ kids.length ≤ 140737488351232 ∧ ∃ a c, v2 = .slice a kids.length c ∧ kids.length ≤ c ∧ c ≤ maxLen ∧ (a = none → c = 0) ∧ (kids = [] ∨ ∃ b o, a = some ⟨b, o, none⟩ ∧ p b ∧ KidsP p w b o kids)
def KidsP (p : Nat → Prop) (w : World) (b : Nat) : Nat → List T → Prop
  | _, [] => True
  | o, t :: ts => (∃ v0 v1 v2, w.cell? ⟨b, o, none⟩ = some v0 ∧ w.cell? ⟨b, o + 1, none⟩ = some v1 ∧ w.cell? ⟨b, o + 2, none⟩ = some v2 ∧ NodeP p w t v0 v1 v2) ∧ KidsP p w b (o + 3) ts
end
mutual
theorem NodeP.mono {p p' : Nat → Prop} {w w' : World} (hp : ∀ b, p b → p' b) (hk : ∀ b, p b → w'.heap[b]? = w.heap[b]?) : ∀ (t : T) (v0 v1 v2 : Value), NodeP p w t v0 v1 v2 → NodeP p' w' t v0 v1 v2
  | .mk leaf atom kids, v0, v1, v2, h => by
    unfold NodeP at h ⊢
    obtain ⟨h0, h1, h2, h3, a, c, h4, h5, h6, h7, h8⟩ := h
    refine ⟨h0, h1, h2, h3, a, c, h4, h5, h6, h7, ?_⟩
    rcases h8 with h8 | ⟨b, o, h8, h9, h10⟩
    · exact .inl h8
    · exact .inr ⟨b, o, h8, hp _ h9, KidsP.mono hp hk kids b o (hk _ h9) h10⟩
theorem KidsP.mono {p p' : Nat → Prop} {w w' : World} (hp : ∀ b, p b → p' b) (hk : ∀ b, p b → w'.heap[b]? = w.heap[b]?) : ∀ (ts : List T) (b o : Nat), w'.heap[b]? = w.heap[b]? → KidsP p w b o ts → KidsP p' w' b o ts
  | [], b, o, hb, _ => by unfold KidsP; trivial
  | t :: ts, b, o, hb, h => by
    unfold KidsP at h ⊢
    obtain ⟨⟨v0, v1, v2, h0, h1, h2, h3⟩, h4⟩ := h
    have e : ∀ i, w'.cell? ⟨b, i, none⟩ = w.cell? ⟨b, i, none⟩ := fun i => by unfold World.cell?; rw [hb]
    exact ⟨⟨v0, v1, v2, by rw [e]; exact h0, by rw [e]; exact h1, by rw [e]; exact h2, NodeP.mono hp hk t v0 v1 v2 h3⟩, KidsP.mono hp hk ts b (o + 3) hb h4⟩
end
mutual
theorem NodeP.at {p : Nat → Prop} {w : World} : ∀ (t : T) (v0 v1 v2 : Value), NodeP p w t v0 v1 v2 → NodeAt w t v0 v1 v2
  | .mk leaf atom kids, v0, v1, v2, h => by
    unfold NodeP at h
    unfold NodeAt
    obtain ⟨h0, h1, h2, h3, a, c, h4, h5, h6, h7, h8⟩ := h
    refine ⟨h0, h1, h2, h3, a, c, h4, h5, h6, h7, ?_⟩
    rcases h8 with h8 | ⟨b, o, h8, h9, h10⟩
    · exact .inl h8
    · exact .inr ⟨b, o, h8, KidsP.at kids b o h10⟩
theorem KidsP.at {p : Nat → Prop} {w : World} : ∀ (ts : List T) (b o : Nat), KidsP p w b o ts → KidsAt w b o ts
  | [], b, o, _ => by unfold KidsAt; trivial
  | t :: ts, b, o, h => by
    unfold KidsP at h
    unfold KidsAt
    obtain ⟨⟨v0, v1, v2, h0, h1, h2, h3⟩, h4⟩ := h
    exact ⟨⟨v0, v1, v2, h0, h1, h2, NodeP.at t v0 v1 v2 h3⟩, KidsP.at ts b (o + 3) h4⟩
end
def KidsVP (p : Nat → Prop) (w : World) : List T → List Value → Prop
  | [], [] => True
  | t :: ts, v0 :: v1 :: v2 :: xs => NodeP p w t v0 v1 v2 ∧ KidsVP p w ts xs
  | _, _ => False
theorem KidsVP.mono {p p' : Nat → Prop} {w w' : World} (hp : ∀ b, p b → p' b) (hk : ∀ b, p b → w'.heap[b]? = w.heap[b]?) : ∀ {ts : List T} {xs : List Value}, KidsVP p w ts xs → KidsVP p' w' ts xs
  | [], [], _ => trivial
  | t :: ts, v0 :: v1 :: v2 :: xs, h => ⟨NodeP.mono hp hk t v0 v1 v2 h.1, KidsVP.mono hp hk h.2⟩
  | [], _ :: _, h => h.elim
  | _ :: _, [], h => h.elim
  | _ :: _, [_], h => h.elim
  | _ :: _, [_, _], h => h.elim
theorem KidsVP.at {p : Nat → Prop} {w : World} : ∀ {ts : List T} {xs : List Value}, KidsVP p w ts xs → KidsVA w ts xs
  | [], [], _ => trivial
  | t :: ts, v0 :: v1 :: v2 :: xs, h => ⟨NodeP.at t v0 v1 v2 h.1, KidsVP.at h.2⟩
  | [], _ :: _, h => h.elim
  | _ :: _, [], h => h.elim
  | _ :: _, [_], h => h.elim
  | _ :: _, [_, _], h => h.elim
theorem KidsVP.snoc {p : Nat → Prop} {w : World} {t : T} {v0 v1 v2 : Value} (ht : NodeP p w t v0 v1 v2) : ∀ {ts : List T} {xs : List Value}, KidsVP p w ts xs → KidsVP p w (ts ++ [t]) (xs ++ [v0, v1, v2])
  | [], [], _ => ⟨ht, trivial⟩
  | t :: ts, v0 :: v1 :: v2 :: xs, h => ⟨h.1, KidsVP.snoc ht h.2⟩
  | [], _ :: _, h => h.elim
  | _ :: _, [], h => h.elim
  | _ :: _, [_], h => h.elim
  | _ :: _, [_, _], h => h.elim
theorem KidsVP.kids {p : Nat → Prop} {w : World} {b : Nat} : ∀ {ts : List T} {xs : List Value} {o : Nat}, KidsVP p w ts xs → (∀ (i : Nat) (u : Value), xs[i]? = some u → w.cell? ⟨b, o + i, none⟩ = some u) → KidsP p w b o ts
  | [], [], o, _, _ => by unfold KidsP; trivial
  | t :: ts, v0 :: v1 :: v2 :: xs, o, h, hc => by
    unfold KidsP
    refine ⟨⟨v0, v1, v2, hc 0 _ rfl, hc 1 _ rfl, hc 2 _ rfl, h.1⟩, KidsVP.kids h.2 fun i u hi => ?_⟩
    have := hc (i + 3) u (by simpa using hi)
    rwa [show o + (i + 3) = o + 3 + i from by omega] at this
  | [], _ :: _, o, h, _ => h.elim
  | _ :: _, [], o, h, _ => h.elim
  | _ :: _, [_], o, h, _ => h.elim
  | _ :: _, [_, _], o, h, _ => h.elim
/-- Copies of so many nodes, in a row of the call's own, since w1. -/
structure CSt (w1 : World) (ts : List T) (v : Value) (p : Nat → Prop) (xs : List Value) (w : World) : Prop where
  own : w.ownsRow w1.heap.size 24 3 v ts.length xs
  kids : KidsVP p w ts xs
  foot : ∀ b, p b → w1.heap.size ≤ b ∧ b < w.heap.size ∧ v.ownBlock ≠ some b
  bel : Below w1.heap.size w1 w
theorem CSt.start (w1 : World) : CSt w1 [] (.slice none 0 0) (fun _ => False) [] w1 :=
  ⟨World.ownsRow_nil _ _ _ _, trivial, fun _ h => h.elim, Below.refl _ _⟩
theorem CSt.keep {w1 w w' : World} {ts : List T} {v : Value} {p : Nat → Prop} {xs : List Value} (h : CSt w1 ts v p xs w) (hb : Below w.heap.size w w') : CSt w1 ts v p xs w' :=
  ⟨ownsRow_keep h.own (fun g hg => hb.block g (owns_lt h.own g hg)), h.kids.mono (fun _ h => h) (fun b hb' => hb.block b (h.foot b hb').2.1), fun b hb' => by have := h.foot b hb'; exact ⟨this.1, Nat.lt_of_lt_of_le this.2.1 hb.size, this.2.2⟩, h.bel.trans (hb.mono h.bel.size)⟩
/-- The whole copy as a node in new blocks. -/
theorem CSt.node {w1 w : World} {ts : List T} {v : Value} {p : Nat → Prop} {xs : List Value} {l : Bool} {a : List UInt8} (h : CSt w1 ts v p xs w) (hl : ts.length ≤ 140737488351232) (ha : a.length ≤ 140737488351232) : NodeP (fun b => p b ∨ v.ownBlock = some b) w (.mk l a ts) (.bool l) (strV a) v := by
  unfold NodeP
  obtain ⟨av, cv, rfl⟩ := owns_form h.own
  have hcap := owns_cap h.own
  rcases h.own.2 with ⟨he, hx⟩ | ⟨g, cap, cur, he, hg0, hg, hn, hm, hc, ht⟩
  · obtain ⟨rfl, h0, rfl⟩ := Value.slice.inj he
    exact ⟨rfl, rfl, ha, hl, none, 0, rfl, hcap.1, hcap.2, fun _ => rfl, .inl (List.eq_nil_of_length_eq_zero h0)⟩
  · obtain ⟨rfl, _, rfl⟩ := Value.slice.inj he
    refine ⟨rfl, rfl, ha, hl, _, cv, rfl, hcap.1, hcap.2, (fun h => (Option.some_ne_none _ h).elim), .inr ⟨g, 0, rfl, .inr rfl, ?_⟩⟩
    refine KidsVP.kids (h.kids.mono (fun _ h => .inl h) (fun _ _ => rfl)) fun i u hi => ?_
    rw [cell_of_heap hg, Nat.zero_add]
    rw [← ht, List.getElem?_take] at hi
    split at hi
    · simpa using hi
    · cases hi
/-- One copy more: made since w, appended. -/
theorem CSt.step {w1 w w2 w3 w' : World} {ts ts2 : List T} {v v' v2 : Value} {p p2 : Nat → Prop} {xs xs2 : List Value} {l : Bool} {a : List UInt8} (h : CSt w1 ts v p xs w) (hm : CSt w ts2 v2 p2 xs2 w2) (hl : ts2.length ≤ 140737488351232) (ha : a.length ≤ 140737488351232) (h3 : Below w2.heap.size w2 w3)
    (ho : w'.ownsRow w1.heap.size 24 3 v' (ts.length + 1) (xs ++ [.bool l, strV a, v2])) (hg : w3.grownBy w' v.ownBlock) (hbk : v'.ownBlock = v.ownBlock ∨ v'.ownBlock = some w3.heap.size) :
    CSt w1 (ts ++ [.mk l a ts2]) v' (fun b => p b ∨ p2 b ∨ v2.ownBlock = some b) (xs ++ [.bool l, strV a, v2]) w' := by
  have hv : ∀ g, v.ownBlock = some g → w1.heap.size ≤ g ∧ g < w.heap.size := fun g hg => ⟨owns_ge h.own g hg, owns_lt h.own g hg⟩
  have hv2 : ∀ g, v2.ownBlock = some g → w.heap.size ≤ g ∧ g < w2.heap.size := fun g hg => ⟨owns_ge hm.own g hg, owns_lt hm.own g hg⟩
  have hs2 := hm.bel.size
  have hs3 := h3.size
  have hs4 := hg.size
  have hs1 := h.bel.size
  have kP : ∀ b, p b → w'.heap[b]? = w.heap[b]? := fun b hb => by
    have hf := h.foot b hb
    rw [hg.block b (by omega) (fun e => hf.2.2 e.symm), h3.block b (by omega), hm.bel.block b (by omega)]
  have kP2 : ∀ b, (p2 b ∨ v2.ownBlock = some b) → w'.heap[b]? = w2.heap[b]? := fun b hb => by
    have hf : w.heap.size ≤ b ∧ b < w2.heap.size := by
      rcases hb with hb | hb
      · exact ⟨(hm.foot b hb).1, (hm.foot b hb).2.1⟩
      · exact hv2 b hb
    rw [hg.block b (by omega) (fun e => by have := (hv b e.symm).2; omega), h3.block b (by omega)]
  refine ⟨by rw [List.length_append]; exact ho, ?_, ?_, ?_⟩
  · exact KidsVP.snoc (NodeP.mono (fun _ h => .inr h) kP2 _ _ _ _ (hm.node hl ha)) (h.kids.mono (fun _ h => .inl h) kP)
  · intro b hb
    have hnew : ∀ b, w.heap.size ≤ b → b < w2.heap.size → v'.ownBlock ≠ some b := fun b h1 h2 e => by
      rcases hbk with e2 | e2
      · have := (hv b (by rw [← e2]; exact e)).2; omega
      · rw [e2] at e; have := Option.some.inj e; omega
    rcases hb with hb | hb | hb
    · have hf := h.foot b hb
      refine ⟨hf.1, by omega, fun e => ?_⟩
      rcases hbk with e2 | e2
      · exact hf.2.2 (by rw [← e2]; exact e)
      · rw [e2] at e; have := Option.some.inj e; omega
    · have hf := hm.foot b hb
      exact ⟨by omega, by omega, hnew b hf.1 hf.2.1⟩
    · have hf := hv2 b hb
      exact ⟨by omega, by omega, hnew b hf.1 hf.2⟩
  · have h12 := h.bel.trans (hm.bel.mono hs1)
    exact (h12.trans (h3.mono h12.size)).grown hg (by omega) (fun k hk => (hv k hk).1)
end Go.Proofs.YtnekmmknjhflgaaDoor
