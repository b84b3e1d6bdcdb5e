/- DERIVED. A tree as a node; its bytes, as a plain function. -/
import Derived.Test.YtjcimajkjnjdpabGreatDoorSexpList
import Derived.Test.YtjcimajkjnjdpabGreatDoorSexpParse
import Derived.Test.YtjcimajkjnjdpabGreatDoorTreeMount
namespace Go.Proofs.YtjcimajkjnjdpabGreatDoor
open Go.RowKit
set_option linter.unusedVariables false

def leafT (a : List UInt8) : T := .mk true a []
def fileT (p : Pr) : T := .mk false [] [leafT p.1, leafT p.2]
def nodeT (t : List Pr) : T := .mk false [] (t.map fileT)
/-- What tree.Encode answers. -/
def bytesT (t : List Pr) : List UInt8 × Int := if goodT t = true then encT (nodeT t) else ([], 1)
theorem leaf_at (w : World) (a : List UInt8) (h : a.length ≤ 140737488351232) : NodeAt w (leafT a) (.bool true) (strV a) (.slice none 0 0) := by
  unfold leafT NodeAt
  exact ⟨rfl, rfl, h, Nat.zero_le _, none, 0, rfl, Nat.le_refl _, Nat.zero_le _, fun _ => rfl, .inl rfl⟩
theorem map_next {t : List Pr} {k : Nat} {p : Pr} (h : t[k]? = some p) : (t.take (k + 1)).map fileT = (t.take k).map fileT ++ [fileT p] := by
  rw [List.take_add_one, h, List.map_append]
  rfl
theorem KidsVA.append {w : World} : ∀ {ts us : List T} {xs ys : List Value}, KidsVA w ts xs → KidsVA w us ys → KidsVA w (ts ++ us) (xs ++ ys)
  | [], us, [], ys, _, h => h
  | t :: ts, us, v0 :: v1 :: v2 :: xs, ys, h, h2 => ⟨h.1, KidsVA.append h.2 h2⟩
  | [], _, _ :: _, _, h, _ => h.elim
  | _ :: _, _, [], _, h, _ => h.elim
  | _ :: _, _, [_], _, h, _ => h.elim
  | _ :: _, _, [_, _], _, h, _ => h.elim
/-- A box of a few nodes, as a source. -/
theorem box_src {w : World} {B : Nat} {xs : List Value} {ts : List T} {e : TypeId} (h : w.heap[B]? = some (.cells ⟨xs⟩ e (0, 0))) (hk : KidsVA w ts xs) (W : World) (hW : Below w.heap.size w W) : Src Tryz.prog 3 48 (.slice (some ⟨B, 0, none⟩) ts.length ts.length) ts.length xs W :=
  Src.ofSlice W Tryz.underlying48 ⟨B, 0, none⟩ _ _ _ hk.len (fun j u hj => by
    rw [Addr.add_lit, Nat.zero_add, cell_of_heap ((hW.block _ (lt_of_heap h)).trans h)]
    simpa using hj) hk.one
/-- An owned row of nodes, as a source. -/
theorem own_src {w : World} {base n c : Nat} {a : Option Addr} {xs : List Value} {ts : List T} {e : TypeId} (h : w.ownsRow base e 3 (.slice a n c) n xs) (hn : n = ts.length) (hk : KidsVA w ts xs) (W : World) (hW : Below w.heap.size w W) : Src Tryz.prog 3 48 (.slice a n c) n xs W := by
  rcases h.2 with ⟨he, _⟩ | ⟨g, cap, cur, he, hg0, hg, hn2, hm, hc, ht⟩
  · obtain ⟨rfl, h0, rfl⟩ := Value.slice.inj he
    obtain rfl : xs = [] := List.eq_nil_of_length_eq_zero (by rw [hk.len, ← hn, h0])
    rw [h0]
    exact Src.ofNil W Tryz.underlying48 0
  · obtain ⟨rfl, _, rfl⟩ := Value.slice.inj he
    refine Src.ofSlice W Tryz.underlying48 ⟨g, 0, none⟩ n c xs (by rw [hk.len, hn]) (fun j u hj => ?_) hk.one
    rw [Addr.add_lit, Nat.zero_add, cell_of_heap ((hW.block _ (lt_of_heap hg)).trans hg)]
    rw [← ht, List.getElem?_take] at hj
    split at hj
    · simpa using hj
    · cases hj
def fileRow (p : Pr) : List Value := [.bool true, strV p.1, .slice none 0 0, .bool true, strV p.2, .slice none 0 0]
/-- A file's node, whose kids lie in a block. -/
def FileAt (w : World) (g c : Nat) (p : Pr) : Prop := 2 ≤ c ∧ c ≤ maxLen ∧ g < w.heap.size ∧ (p.1.length ≤ 400000 ∧ p.2.length ≤ 400000) ∧ ∀ (i : Nat) (u : Value), (fileRow p)[i]? = some u → w.cell? ⟨g, i, none⟩ = some u
theorem FileAt.keep {w w' : World} {g c : Nat} {p : Pr} (h : FileAt w g c p) (hs : w.heap.size ≤ w'.heap.size) (hb : w'.heap[g]? = w.heap[g]?) : FileAt w' g c p :=
  ⟨h.1, h.2.1, Nat.lt_of_lt_of_le h.2.2.1 hs, h.2.2.2.1, fun i u hi => (World.cell?_of_block (a := ⟨g, i, none⟩) hb).trans (h.2.2.2.2 i u hi)⟩
theorem FileAt.node {w : World} {g c : Nat} {p : Pr} (h : FileAt w g c p) : NodeAt w (fileT p) (.bool false) (.string ⟨#[]⟩) (.slice (some ⟨g, 0, none⟩) 2 c) := by
  obtain ⟨h1, h2, h3, h4, h5⟩ := h
  unfold fileT NodeAt
  refine ⟨rfl, rfl, Nat.zero_le _, by simp, _, c, rfl, h1, h2, (fun e => by cases e), .inr ⟨g, 0, rfl, ?_⟩⟩
  refine KidsVA.kids (xs := fileRow p) ⟨leaf_at _ _ (by omega), leaf_at _ _ (by omega), trivial⟩ fun i u hi => ?_
  rw [Nat.zero_add]; exact h5 i u hi
/-- A row of files' nodes, whose kids' blocks are none of the row's own. -/
def FilesV (w : World) (row : Option Nat) : List Pr → List Value → Prop
  | [], [] => True
  | p :: ps, v0 :: v1 :: v2 :: xs => (∃ g c, v0 = .bool false ∧ v1 = .string ⟨#[]⟩ ∧ v2 = .slice (some ⟨g, 0, none⟩) 2 c ∧ row ≠ some g ∧ FileAt w g c p) ∧ FilesV w row ps xs
  | _, _ => False
theorem FilesV.keep {w w' : World} {row row' : Option Nat} (hs : w.heap.size ≤ w'.heap.size) (hb : ∀ g, g < w.heap.size → row ≠ some g → w'.heap[g]? = w.heap[g]? ∧ row' ≠ some g) : ∀ {ps : List Pr} {xs : List Value}, FilesV w row ps xs → FilesV w' row' ps xs
  | [], [], _ => trivial
  | p :: ps, v0 :: v1 :: v2 :: xs, h => by
    obtain ⟨⟨g, c, h0, h1, h2, h3, h4⟩, h5⟩ := h
    exact ⟨⟨g, c, h0, h1, h2, (hb g h4.2.2.1 h3).2, h4.keep hs (hb g h4.2.2.1 h3).1⟩, FilesV.keep hs hb h5⟩
  | [], _ :: _, h => h.elim
  | _ :: _, [], h => h.elim
  | _ :: _, [_], h => h.elim
  | _ :: _, [_, _], h => h.elim
theorem FilesV.kids {w : World} {row : Option Nat} : ∀ {ps : List Pr} {xs : List Value}, FilesV w row ps xs → KidsVA w (ps.map fileT) xs
  | [], [], _ => trivial
  | p :: ps, v0 :: v1 :: v2 :: xs, h => by
    obtain ⟨⟨g, c, h0, h1, h2, h3, h4⟩, h5⟩ := h
    subst h0; subst h1; subst h2
    exact ⟨h4.node, FilesV.kids h5⟩
  | [], _ :: _, h => h.elim
  | _ :: _, [], h => h.elim
  | _ :: _, [_], h => h.elim
  | _ :: _, [_, _], h => h.elim
theorem FilesV.snoc {w : World} {row : Option Nat} {p : Pr} {g c : Nat} (hr : row ≠ some g) (hf : FileAt w g c p) : ∀ {ps : List Pr} {xs : List Value}, FilesV w row ps xs → FilesV w row (ps ++ [p]) (xs ++ [.bool false, .string ⟨#[]⟩, .slice (some ⟨g, 0, none⟩) 2 c])
  | [], [], _ => ⟨⟨g, c, rfl, rfl, rfl, hr, hf⟩, trivial⟩
  | q :: ps, v0 :: v1 :: v2 :: xs, h => ⟨h.1, FilesV.snoc hr hf h.2⟩
  | [], _ :: _, h => h.elim
  | _ :: _, [], h => h.elim
  | _ :: _, [_], h => h.elim
  | _ :: _, [_, _], h => h.elim
theorem takes_next {t : List Pr} {k : Nat} {p : Pr} (h : t[k]? = some p) : t.take (k + 1) = t.take k ++ [p] := by
  rw [List.take_add_one, h]
  rfl
end Go.Proofs.YtjcimajkjnjdpabGreatDoor
