/- DERIVED. A node in new memory: its blocks, by their depth. -/
import Derived.Test.YtjcimajkjnjdpabGreatDoorSexpAtom
namespace Go.Proofs.YtjcimajkjnjdpabGreatDoor
open Go.RowKit
set_option linter.unusedVariables false

/-- Blocks of nodes' lists: at a depth, the block, how many nodes it holds. -/
abbrev Foot := Nat → Nat → Nat → Prop
def ListIn (G : Foot) (d : Nat) (v : Value) : Prop := v = .slice none 0 0 ∨ ∃ b n c, v = .slice (some ⟨b, 0, none⟩) n c ∧ n ≤ c ∧ c ≤ maxLen ∧ G d b n
mutual
/-- A node all of whose lists lie in blocks of the foot. -/
def NodeG (G : Foot) (w : World) : Nat → T → Value → Value → Value → Prop
  | d, .mk leaf atom kids, v0, v1, v2 => v0 = .bool leaf ∧ v1 = strV atom ∧ atom.length ≤ 140737488351232 ∧ kids.length ≤ 140737488351232 ∧ ((kids = [] ∧ v2 = .slice none 0 0) ∨ ∃ b c, v2 = .slice (some ⟨b, 0, none⟩) kids.length c ∧ kids.length ≤ c ∧ c ≤ maxLen ∧ G d b kids.length ∧ KidsG G w b 0 (d + 1) kids)
def KidsG (G : Foot) (w : World) (b : Nat) : Nat → Nat → List T → Prop
  | _, _, [] => True
  | o, d, t :: ts => (∃ v0 v1 v2, w.cell? ⟨b, o, none⟩ = some v0 ∧ w.cell? ⟨b, o + 1, none⟩ = some v1 ∧ w.cell? ⟨b, o + 2, none⟩ = some v2 ∧ NodeG G w d t v0 v1 v2) ∧ KidsG G w b (o + 3) d ts
end
mutual
theorem NodeG.mono {G G' : Foot} {w w' : World} (hG : ∀ l b n, G l b n → G' l b n) (hk : ∀ l b n, G l b n → w'.heap[b]? = w.heap[b]?) : ∀ (t : T) (d : Nat) (v0 v1 v2 : Value), NodeG G w d t v0 v1 v2 → NodeG G' w' d t v0 v1 v2
  | .mk leaf atom kids, d, v0, v1, v2, h => by
    unfold NodeG at h ⊢
    obtain ⟨h0, h1, h2, h3, h4⟩ := h
    refine ⟨h0, h1, h2, h3, ?_⟩
    rcases h4 with h4 | ⟨b, c, h4, h5, h6, h7, h8⟩
    · exact .inl h4
    · exact .inr ⟨b, c, h4, h5, h6, hG _ _ _ h7, KidsG.mono hG hk kids b 0 (d + 1) (hk _ _ _ h7) h8⟩
theorem KidsG.mono {G G' : Foot} {w w' : World} (hG : ∀ l b n, G l b n → G' l b n) (hk : ∀ l b n, G l b n → w'.heap[b]? = w.heap[b]?) : ∀ (ts : List T) (b o d : Nat), w'.heap[b]? = w.heap[b]? → KidsG G w b o d ts → KidsG G' w' b o d ts
  | [], b, o, d, hb, _ => by unfold KidsG; trivial
  | t :: ts, b, o, d, hb, h => by
    unfold KidsG at h ⊢
    obtain ⟨⟨v0, v1, v2, h0, h1, h2, h3⟩, h4⟩ := h
    have e : ∀ i, w'.cell? ⟨b, i, none⟩ = w.cell? ⟨b, i, none⟩ := fun i => by unfold World.cell?; rw [hb]
    exact ⟨⟨v0, v1, v2, by rw [e]; exact h0, by rw [e]; exact h1, by rw [e]; exact h2, NodeG.mono hG hk t d v0 v1 v2 h3⟩, KidsG.mono hG hk ts b (o + 3) d hb h4⟩
end
mutual
theorem NodeG.at {G : Foot} {w : World} : ∀ (t : T) (d : Nat) (v0 v1 v2 : Value), NodeG G w d t v0 v1 v2 → NodeAt w t v0 v1 v2
  | .mk leaf atom kids, d, v0, v1, v2, h => by
    unfold NodeG at h
    unfold NodeAt
    obtain ⟨h0, h1, h2, h3, h4⟩ := h
    refine ⟨h0, h1, h2, h3, ?_⟩
    rcases h4 with ⟨rfl, rfl⟩ | ⟨b, c, h4, h5, h6, h7, h8⟩
    · exact ⟨none, 0, rfl, Nat.zero_le _, Nat.zero_le _, fun _ => rfl, .inl rfl⟩
    · exact ⟨_, c, h4, h5, h6, fun h => (Option.some_ne_none _ h).elim, .inr ⟨b, 0, rfl, KidsG.at kids b 0 (d + 1) h8⟩⟩
theorem KidsG.at {G : Foot} {w : World} : ∀ (ts : List T) (b o d : Nat), KidsG G w b o d ts → KidsAt w b o ts
  | [], b, o, d, _ => by unfold KidsAt; trivial
  | t :: ts, b, o, d, h => by
    unfold KidsG at h
    unfold KidsAt
    obtain ⟨⟨v0, v1, v2, h0, h1, h2, h3⟩, h4⟩ := h
    exact ⟨⟨v0, v1, v2, h0, h1, h2, NodeG.at t d v0 v1 v2 h3⟩, KidsG.at ts b (o + 3) d h4⟩
end
theorem NodeG.list {G : Foot} {w : World} {t : T} {d : Nat} {v0 v1 v2 : Value} (h : NodeG G w d t v0 v1 v2) : ListIn G d v2 ∧ (∃ l, v0 = .bool l) ∧ ∃ s, v1 = .string s := by
  obtain ⟨leaf, atom, kids⟩ := t
  unfold NodeG at h
  obtain ⟨h0, h1, h2, h3, h4⟩ := h
  refine ⟨?_, ⟨_, h0⟩, _, h1⟩
  rcases h4 with ⟨_, h4⟩ | ⟨b, c, h4, h5, h6, h7, h8⟩
  · exact .inl h4
  · exact .inr ⟨b, _, c, h4, h5, h6, h7⟩
/-- Each block of the foot holds so many nodes, whose lists lie in the foot, one deeper. -/
def Inv (G : Foot) (w : World) : Prop := ∀ l b n, G l b n → ∃ cs t, w.heap[b]? = some (.cells cs t (0, 0)) ∧ n * 3 ≤ cs.size ∧
  ∀ i, i < n → ∃ lf s v2, cs[i * 3]? = some (.bool lf) ∧ cs[i * 3 + 1]? = some (.string s) ∧ cs[i * 3 + 2]? = some v2 ∧ ListIn G (l + 1) v2
theorem ListIn.mono {G G' : Foot} (hG : ∀ l b n, G l b n → G' l b n) {d : Nat} {v : Value} (h : ListIn G d v) : ListIn G' d v := by
  rcases h with h | ⟨b, n, c, h1, h2, h3, h4⟩
  · exact .inl h
  · exact .inr ⟨b, n, c, h1, h2, h3, hG _ _ _ h4⟩
theorem Inv.keep {G : Foot} {w w' : World} (h : Inv G w) (hk : ∀ l b n, G l b n → w'.heap[b]? = w.heap[b]?) : Inv G w' := by
  intro l b n hg
  rw [hk l b n hg]; exact h l b n hg
/-- A node that was made since w, within so many lists. -/
structure Made (w w' : World) (d : Nat) (G : Foot) (t : T) (v0 v1 v2 : Value) : Prop where
  foot : ∀ l b n, G l b n → d ≤ l ∧ l < 32 ∧ w.heap.size ≤ b ∧ b < w'.heap.size
  inv : Inv G w'
  node : NodeG G w' d t v0 v1 v2
theorem Made.keep {w w' w2 : World} {d : Nat} {G : Foot} {t : T} {v0 v1 v2 : Value} (h : Made w w' d G t v0 v1 v2) (hk : ∀ k, w.heap.size ≤ k → k < w'.heap.size → w2.heap[k]? = w'.heap[k]?) (hs : w'.heap.size ≤ w2.heap.size) : Made w w2 d G t v0 v1 v2 := by
  have hg : ∀ l b n, G l b n → w2.heap[b]? = w'.heap[b]? := fun l b n hb => hk b (h.foot l b n hb).2.2.1 (h.foot l b n hb).2.2.2
  exact ⟨fun l b n hb => by have := h.foot l b n hb; exact ⟨this.1, this.2.1, this.2.2.1, Nat.lt_of_lt_of_le this.2.2.2 hs⟩, h.inv.keep hg, NodeG.mono (fun _ _ _ h => h) hg _ _ _ _ _ h.node⟩
theorem Made.base {w w1 w' : World} {d : Nat} {G : Foot} {t : T} {v0 v1 v2 : Value} (h : Made w1 w' d G t v0 v1 v2) (hs : w.heap.size ≤ w1.heap.size) : Made w w' d G t v0 v1 v2 :=
  ⟨fun l b n hb => by have := h.foot l b n hb; exact ⟨this.1, this.2.1, Nat.le_trans hs this.2.2.1, this.2.2.2⟩, h.inv, h.node⟩
/-- The nodes of a row. -/
def KidsV (G : Foot) (w : World) (d : Nat) : List T → List Value → Prop
  | [], [] => True
  | t :: ts, v0 :: v1 :: v2 :: xs => NodeG G w d t v0 v1 v2 ∧ KidsV G w d ts xs
  | _, _ => False
theorem KidsV.mono {G G' : Foot} {w w' : World} {d : Nat} (hG : ∀ l b n, G l b n → G' l b n) (hk : ∀ l b n, G l b n → w'.heap[b]? = w.heap[b]?) : ∀ {ts : List T} {xs : List Value}, KidsV G w d ts xs → KidsV G' w' d ts xs
  | [], [], _ => trivial
  | t :: ts, v0 :: v1 :: v2 :: xs, h => ⟨NodeG.mono hG hk t d v0 v1 v2 h.1, KidsV.mono hG hk h.2⟩
  | [], _ :: _, h => h.elim
  | _ :: _, [], h => h.elim
  | _ :: _, [_], h => h.elim
  | _ :: _, [_, _], h => h.elim
theorem KidsV.snoc {G : Foot} {w : World} {d : Nat} {t : T} {v0 v1 v2 : Value} (ht : NodeG G w d t v0 v1 v2) : ∀ {ts : List T} {xs : List Value}, KidsV G w d ts xs → KidsV G w d (ts ++ [t]) (xs ++ [v0, v1, v2])
  | [], [], _ => ⟨ht, trivial⟩
  | t :: ts, v0 :: v1 :: v2 :: xs, h => ⟨h.1, KidsV.snoc ht h.2⟩
  | [], _ :: _, h => h.elim
  | _ :: _, [], h => h.elim
  | _ :: _, [_], h => h.elim
  | _ :: _, [_, _], h => h.elim
theorem KidsV.get {G : Foot} {w : World} {d : Nat} : ∀ {ts : List T} {xs : List Value}, KidsV G w d ts xs → xs.length = ts.length * 3 ∧ ∀ i, i < ts.length → ∃ lf s v2, xs[i * 3]? = some (.bool lf) ∧ xs[i * 3 + 1]? = some (.string s) ∧ xs[i * 3 + 2]? = some v2 ∧ ListIn G d v2
  | [], [], _ => ⟨rfl, fun i hi => by cases hi⟩
  | t :: ts, v0 :: v1 :: v2 :: xs, h => by
    obtain ⟨h1, h2⟩ := KidsV.get h.2
    refine ⟨by simp [h1]; omega, fun i hi => ?_⟩
    cases i with
    | zero =>
      obtain ⟨k1, ⟨lf, rfl⟩, s, rfl⟩ := h.1.list
      exact ⟨lf, s, v2, rfl, rfl, rfl, k1⟩
    | succ i =>
      obtain ⟨lf, s, u, k1, k2, k3, k4⟩ := h2 i (by simpa using hi)
      refine ⟨lf, s, u, ?_, ?_, ?_, k4⟩
      · rw [show (i + 1) * 3 = i * 3 + 3 from by omega]; simpa using k1
      · rw [show (i + 1) * 3 + 1 = i * 3 + 1 + 3 from by omega]; simpa using k2
      · rw [show (i + 1) * 3 + 2 = i * 3 + 2 + 3 from by omega]; simpa using k3
  | [], _ :: _, h => h.elim
  | _ :: _, [], h => h.elim
  | _ :: _, [_], h => h.elim
  | _ :: _, [_, _], h => h.elim
theorem KidsV.kids {G : Foot} {w : World} {d b : Nat} : ∀ {ts : List T} {xs : List Value} {o : Nat}, KidsV G w d ts xs → (∀ i u, xs[i]? = some u → w.cell? ⟨b, o + i, none⟩ = some u) → KidsG G w b o d ts
  | [], [], o, _, _ => by unfold KidsG; trivial
  | t :: ts, v0 :: v1 :: v2 :: xs, o, h, hc => by
    unfold KidsG
    refine ⟨⟨v0, v1, v2, hc 0 _ rfl, hc 1 _ rfl, hc 2 _ rfl, h.1⟩, KidsV.kids h.2 fun i u hi => ?_⟩
    have := hc (i + 3) u (by simpa using hi)
    rwa [show o + (i + 3) = o + 3 + i from by omega] at this
  | [], _ :: _, o, h, _ => h.elim
  | _ :: _, [], o, h, _ => h.elim
  | _ :: _, [_], o, h, _ => h.elim
  | _ :: _, [_, _], o, h, _ => h.elim
/-- The nodes that were read so far, in a row of the call's own. -/
structure KSt (w1 : World) (W d : Nat) (ts : List T) (v : Value) (G : Foot) (xs : List Value) (w : World) : Prop where
  own : w.ownsRow 0 50 3 v ts.length xs
  kids : KidsV G w (d + 1) ts xs
  foot : ∀ l b n, G l b n → d + 1 ≤ l ∧ l < 32 ∧ w1.heap.size ≤ b ∧ b < w.heap.size ∧ v.ownBlock ≠ some b
  inv : Inv G w
  row : ∀ g, v.ownBlock = some g → w1.heap.size ≤ g
  ch : Ch [W] w1 w
theorem KSt.start (w1 : World) (W d : Nat) : KSt w1 W d [] (.slice none 0 0) (fun _ _ _ => False) [] w1 :=
  ⟨World.ownsRow_nil _ _ _ _, trivial, fun _ _ _ h => h.elim, fun _ _ _ h => h.elim, (fun g h => by simp [Value.ownBlock] at h), Ch.refl _ _⟩
theorem KSt.keep {w1 w w' : World} {W d : Nat} {ts : List T} {v : Value} {G : Foot} {xs : List Value} (h : KSt w1 W d ts v G xs w) (hW : W < w1.heap.size) (hc : Ch [W] w w') : KSt w1 W d ts v G xs w' := by
  have hk : ∀ b, w1.heap.size ≤ b → b < w.heap.size → w'.heap[b]? = w.heap[b]? := fun b h1 h2 => hc.block b h2 (by simp; omega)
  have hg : ∀ l b n, G l b n → w'.heap[b]? = w.heap[b]? := fun l b n hg => by have := h.foot l b n hg; exact hk b this.2.2.1 this.2.2.2.1
  exact ⟨ownsRow_keep h.own (fun g hg' => hk g (h.row g hg') (owns_lt h.own g hg')), h.kids.mono (fun _ _ _ h => h) hg, fun l b n hb => by have := h.foot l b n hb; exact ⟨this.1, this.2.1, this.2.2.1, Nat.lt_of_lt_of_le this.2.2.2.1 hc.size, this.2.2.2.2⟩, h.inv.keep hg, h.row, h.ch.trans hc (fun x hx => .inl hx)⟩
/-- One node more: it was read (made since w), boxed, appended. -/
theorem KSt.step {w1 w w2 w3 w' : World} {W d : Nat} {ts : List T} {v v' : Value} {G G2 : Foot} {xs : List Value} {t : T} {v0 v1 v2 : Value} (h : KSt w1 W d ts v G xs w) (hW : W < w1.heap.size) (hc : Ch [W] w w2) (hm : Made w w2 (d + 1) G2 t v0 v1 v2) (h3 : Below w2.heap.size w2 w3)
    (ho : w'.ownsRow 0 50 3 v' (ts.length + 1) (xs ++ [v0, v1, v2])) (hg : w3.grownBy w' v.ownBlock) (hbk : v'.ownBlock = v.ownBlock ∨ v'.ownBlock = some w3.heap.size) :
    KSt w1 W d (ts ++ [t]) v' (fun l b n => G l b n ∨ G2 l b n) (xs ++ [v0, v1, v2]) w' := by
  have hv : ∀ g, v.ownBlock = some g → w1.heap.size ≤ g ∧ g < w.heap.size := fun g hg => ⟨h.row g hg, owns_lt h.own g hg⟩
  have hs2 := hc.size
  have hs3 := h3.size
  have hs4 := hg.size
  have hs1 := h.ch.size
  have kG : ∀ l b n, G l b n → w'.heap[b]? = w.heap[b]? := fun l b n hb => by
    have hf := h.foot l b n hb
    rw [hg.block b (by omega) (fun e => hf.2.2.2.2 e.symm), h3.block b (by omega), hc.block b hf.2.2.2.1 (by simp; omega)]
  have kG2 : ∀ l b n, G2 l b n → w'.heap[b]? = w2.heap[b]? := fun l b n hb => by
    have hf := hm.foot l b n hb
    rw [hg.block b (by omega) (fun e => by have := (hv b e.symm).2; omega), h3.block b (by omega)]
  refine ⟨by rw [List.length_append]; exact ho, ?_, ?_, ?_, ?_, ?_⟩
  · exact KidsV.snoc (NodeG.mono (fun _ _ _ h => .inr h) kG2 _ _ _ _ _ hm.node) (h.kids.mono (fun _ _ _ h => .inl h) kG)
  · intro l b n hb
    rcases hb with hb | hb
    · have hf := h.foot l b n hb
      refine ⟨hf.1, hf.2.1, hf.2.2.1, by omega, fun e => ?_⟩
      rcases hbk with e2 | e2
      · exact hf.2.2.2.2 (by rw [← e2]; exact e)
      · rw [e2] at e; have := Option.some.inj e; omega
    · have hf := hm.foot l b n hb
      refine ⟨hf.1, hf.2.1, by omega, by omega, fun e => ?_⟩
      rcases hbk with e2 | e2
      · have := (hv b (by rw [← e2]; exact e)).2; omega
      · rw [e2] at e; have := Option.some.inj e; omega
  · intro l b n hb
    rcases hb with hb | hb
    · rw [kG l b n hb]
      obtain ⟨cs, t', k1, k2, k3⟩ := h.inv l b n hb
      refine ⟨cs, t', k1, k2, fun i hi => ?_⟩
      obtain ⟨lf, s, u, m1, m2, m3, m4⟩ := k3 i hi
      exact ⟨lf, s, u, m1, m2, m3, m4.mono (fun _ _ _ h => .inl h)⟩
    · rw [kG2 l b n hb]
      obtain ⟨cs, t', k1, k2, k3⟩ := hm.inv l b n hb
      refine ⟨cs, t', k1, k2, fun i hi => ?_⟩
      obtain ⟨lf, s, u, m1, m2, m3, m4⟩ := k3 i hi
      exact ⟨lf, s, u, m1, m2, m3, m4.mono (fun _ _ _ h => .inr h)⟩
  · intro g hg'
    rcases hbk with e | e
    · rw [e] at hg'; exact h.row g hg'
    · rw [e] at hg'; have := Option.some.inj hg'; omega
  · refine ((h.ch.trans hc (fun x hx => .inl hx)).trans (Ch.of_below h3 [W]) (fun x hx => .inl hx)).grown hg (fun k hk => .inr (h.row k hk))
/-- The list that was read. -/
theorem KSt.made {w w1 wr : World} {W d : Nat} {ts : List T} {v : Value} {G : Foot} {xs : List Value} (h : KSt w1 W d ts v G xs wr) (hs : w.heap.size ≤ w1.heap.size) (hd : d < 32) (hl : ts.length ≤ 140737488351232) :
    ∃ G', Made w wr d G' (.mk false [] ts) (.bool false) (strV []) v := by
  rcases h.own.2 with ⟨rfl, hxs⟩ | ⟨g, cap, cur, rfl, hb, hg, hn, hm, hc, ht⟩
  · have hts : ts = [] := List.eq_nil_of_length_eq_zero (by have := h.own.1; rw [hxs] at this; simp at this; omega)
    subst hts
    exact ⟨fun _ _ _ => False, fun _ _ _ h => h.elim, fun _ _ _ h => h.elim, by unfold NodeG; exact ⟨rfl, rfl, Nat.zero_le _, Nat.zero_le _, .inl ⟨rfl, rfl⟩⟩⟩
  · have hcell : ∀ (i : Nat) (u : Value), xs[i]? = some u → cur[i]? = some u := by
      intro i u hi
      rw [← ht, List.getElem?_take] at hi
      split at hi
      · simpa using hi
      · cases hi
    have hlen := h.own.1
    refine ⟨fun l b n => G l b n ∨ (l = d ∧ b = g ∧ n = ts.length), ?_, ?_, ?_⟩
    · intro l b n hb
      rcases hb with hb | ⟨rfl, rfl, rfl⟩
      · have hf := h.foot l b n hb
        exact ⟨by omega, hf.2.1, by omega, hf.2.2.2.1⟩
      · have := h.row b rfl
        exact ⟨Nat.le_refl _, hd, by omega, lt_of_heap hg⟩
    · intro l b n hb
      rcases hb with hb | ⟨rfl, rfl, rfl⟩
      · obtain ⟨cs, t', k1, k2, k3⟩ := h.inv l b n hb
        refine ⟨cs, t', k1, k2, fun i hi => ?_⟩
        obtain ⟨lf, s, u, m1, m2, m3, m4⟩ := k3 i hi
        exact ⟨lf, s, u, m1, m2, m3, m4.mono (fun _ _ _ h => .inl h)⟩
      · refine ⟨cur, _, hg, by rw [hc]; omega, fun i hi => ?_⟩
        obtain ⟨lf, s, u, m1, m2, m3, m4⟩ := h.kids.get.2 i hi
        exact ⟨lf, s, u, hcell _ _ m1, hcell _ _ m2, hcell _ _ m3, m4.mono (fun _ _ _ h => .inl h)⟩
    · unfold NodeG
      refine ⟨rfl, rfl, Nat.zero_le _, hl, .inr ⟨g, cap, rfl, hn, hm, .inr ⟨rfl, rfl, rfl⟩, ?_⟩⟩
      refine KidsV.kids (h.kids.mono (fun _ _ _ h => .inl h) (fun _ _ _ _ => rfl)) fun i u hi => ?_
      rw [cell_of_heap hg, Nat.zero_add]
      exact hcell i u hi
end Go.Proofs.YtjcimajkjnjdpabGreatDoor
