/- DERIVED. Names, and lists of packages by names, in rows of the walk's own. -/
import Derived.Test.YtnbeklmjinnbaaaGreatSolLw
import Derived.Test.YtnbeklmjinnbaaaGreatRHolds
namespace Go.Proofs.YtnbeklmjinnbaaaGreat
open Go.RowKit Go.Shelf
set_option linter.unusedVariables false
set_option linter.unusedSimpArgs false
set_option maxRecDepth 100000

structure Kd (b0 : Nat) (w : World) (vN vK : Value) (n m t : Nat) (ns : List (List UInt8)) (ks : List Value) (Ls : List (List Pk)) : Prop where
  nl : ns.length = n
  kl : ks.length = m
  ll : Ls.length = m
  names : w.ownsRow b0 9 1 vN n (ns.map strV)
  kinds : w.ownsRow b0 28 1 vK m ks
  each : ∀ (i : Nat) (v : Value) (L : List Pk), ks[i]? = some v → Ls[i]? = some L → PkRow b0 w v L
  apart : ∀ (i j : Nat) (v u : Value) (g : Nat), ks[i]? = some v → ks[j]? = some u → v.ownBlock = some g → u.ownBlock = some g → i = j
  few : ∀ (i : Nat) (L : List Pk), Ls[i]? = some L → L.length ≤ t
  low : b0 ≤ w.heap.size
variable {b0 : Nat} {w w' : World} {vN vK vN' vK' : Value} {n m t : Nat} {ns : List (List UInt8)} {ks : List Value} {Ls : List (List Pk)}
theorem row_other {base base' : Nat} {e e' : TypeId} {size size' n n' : Nat} {v v' : Value} {xs xs' : List Value} (h : w.ownsRow base e size v n xs) (h' : w.ownsRow base' e' size' v' n' xs') (hne : e ≠ e') (hg : w.grownBy w' v'.ownBlock) : w'.ownsRow base e size v n xs :=
  ownsRow_keep h (fun g hgv => hg.block g (row_base h g hgv).2 (fun eq => by
    obtain ⟨c1, h1⟩ := row_kindR h g hgv
    obtain ⟨c2, h2⟩ := row_kindR h' g eq.symm
    exact cells_ne h1 h2 hne))
theorem Kd.below (h : Kd b0 w vN vK n m t ns ks Ls) (hb : Below w.heap.size w w') : Kd b0 w' vN vK n m t ns ks Ls :=
  ⟨h.nl, h.kl, h.ll, row_below h.names hb, row_below h.kinds hb, fun i v L hv hL => (h.each i v L hv hL).below hb, h.apart, h.few, Nat.le_trans h.low hb.size⟩
theorem Kd.more {t' : Nat} (h : Kd b0 w vN vK n m t ns ks Ls) (ht : t ≤ t') : Kd b0 w vN vK n m t' ns ks Ls := ⟨h.nl, h.kl, h.ll, h.names, h.kinds, h.each, h.apart, fun i L hL => Nat.le_trans (h.few i L hL) ht, h.low⟩
theorem Kd.nil {b0 t : Nat} {w : World} (hl : b0 ≤ w.heap.size) : Kd b0 w (.slice none 0 0) (.slice none 0 0) 0 0 t [] [] [] :=
  ⟨rfl, rfl, rfl, World.ownsRow_nil _ _ _ _, World.ownsRow_nil _ _ _ _, (fun i v L h => by cases h), (fun i j v u g h => by cases h), (fun i L h => by cases h), hl⟩
theorem Kd.addN {q : List UInt8} (h : Kd b0 w vN vK n m t ns ks Ls) (ho : w'.ownsRow b0 9 1 vN' (n + 1) (ns.map strV ++ [strV q])) (hg : w.grownBy w' vN.ownBlock) : Kd b0 w' vN' vK (n + 1) m t (ns ++ [q]) ks Ls :=
  ⟨by rw [List.length_append, h.nl]; rfl, h.kl, h.ll, by rw [List.map_append]; exact ho, row_other h.kinds h.names (by decide) hg, fun i v L hv hL => row_other (h.each i v L hv hL) h.names (by decide) hg, h.apart, h.few, Nat.le_trans h.low hg.size⟩
theorem snoc_get {α : Type} {l : List α} {x y : α} {i : Nat} (h : (l ++ [x])[i]? = some y) : l[i]? = some y ∨ (i = l.length ∧ y = x) := by
  rcases Nat.lt_or_ge i l.length with hl | hl
  · rw [List.getElem?_append_left hl] at h; exact .inl h
  · rw [List.getElem?_append_right hl] at h
    have hi := (List.getElem?_eq_some_iff.1 h).1
    simp only [List.length_singleton] at hi
    obtain rfl : i = l.length := by omega
    simp at h
    exact .inr ⟨rfl, h.symm⟩
theorem Kd.addK (h : Kd b0 w vN vK n m t ns ks Ls) (ho : w'.ownsRow b0 28 1 vK' (m + 1) (ks ++ [.slice none 0 0])) (hg : w.grownBy w' vK.ownBlock) : Kd b0 w' vN vK' n (m + 1) t ns (ks ++ [.slice none 0 0]) (Ls ++ [[]]) := by
  refine ⟨h.nl, by rw [List.length_append, h.kl]; rfl, by rw [List.length_append, h.ll]; rfl, row_other h.names h.kinds (by decide) hg, ho, fun i v L hv hL => ?_, fun i j v u g hv hu e1 e2 => ?_, fun i L hL => ?_, Nat.le_trans h.low hg.size⟩
  · rcases snoc_get hv with hv | ⟨-, rfl⟩
    · rcases snoc_get hL with hL | ⟨hi, rfl⟩
      · exact row_other (h.each i v L hv hL) h.kinds (by decide) hg
      · have := (List.getElem?_eq_some_iff.1 hv).1; rw [h.kl] at this; rw [h.ll] at hi; omega
    · rcases snoc_get hL with hL | ⟨hi, rfl⟩
      · rename_i hi; have := (List.getElem?_eq_some_iff.1 hL).1; rw [h.ll] at this
        have h2 := (List.getElem?_eq_some_iff.1 hv).1
        by_cases hi2 : i < ks.length
        · rw [List.getElem?_append_left hi2] at hv
          have h3 := row_other (h.each i _ L hv hL) h.kinds (by decide : 26 ≠ 28) hg
          exact h3
        · rw [h.kl] at hi2; omega
      · exact PkRow.nil _ _
  · rcases snoc_get hv with hv | ⟨-, rfl⟩
    · rcases snoc_get hu with hu | ⟨-, rfl⟩
      · exact h.apart i j v u g hv hu e1 e2
      · cases e2
    · cases e1
  · rcases snoc_get hL with hL | ⟨-, rfl⟩
    · exact h.few i L hL
    · exact Nat.zero_le _
theorem ownsRow_set1 {base : Nat} {e : TypeId} {g c n k : Nat} {xs : List Value} {u : Value} (h : w.ownsRow base e 1 (.slice (some ⟨g, 0, none⟩) n c) n xs) (hk : k < n) : (w.setCell ⟨g, k, none⟩ u).ownsRow base e 1 (.slice (some ⟨g, 0, none⟩) n c) n (xs.set k u) := by
  obtain ⟨h1, h2⟩ := h
  refine ⟨by rw [List.length_set]; exact h1, .inr ?_⟩
  rcases h2 with ⟨h2, -⟩ | ⟨g', cap, cur, e1, hb, hgb, h3, h4, h5, h6⟩
  · cases h2
  · obtain ⟨e2, -, rfl⟩ := Value.slice.inj e1
    obtain rfl : g = g' := by simpa using e2
    refine ⟨g, c, cur.setIfInBounds k u, rfl, hb, heap_setCell_here (i := k) u hgb, h3, h4, by simpa using h5, ?_⟩
    rw [Array.toList_setIfInBounds, ← h6, List.take_set]
theorem Kd.put {k g c : Nat} {u u' : Value} {L : List Pk} {q : Pk} (h : Kd b0 w vN (.slice (some ⟨g, 0, none⟩) m c) n m t ns ks Ls) (hk : k < m) (hu : ks[k]? = some u) (hL : Ls[k]? = some L) (ho : PkRow b0 w' u' (L ++ [q])) (hg : w.grownBy w' u.ownBlock) (hblk : u'.ownBlock = u.ownBlock ∨ u'.ownBlock = some w.heap.size) :
    Kd b0 (w'.setCell ⟨g, k, none⟩ u') vN (.slice (some ⟨g, 0, none⟩) m c) n m (t + 1) ns (ks.set k u') (Ls.set k (L ++ [q])) := by
  have hrow := h.each k u L hu hL
  have hK := row_other h.kinds hrow (by decide) hg
  have hN := row_other h.names hrow (by decide) hg
  have hgK : ∃ cur, w'.heap[g]? = some (.cells cur 28 (0, 0)) := row_kindR hK g rfl
  obtain ⟨curK, hcK⟩ := hgK
  have keepP : ∀ (v : Value) (M : List Pk), PkRow b0 w' v M → PkRow b0 (w'.setCell ⟨g, k, none⟩ u') v M := fun v M hM => ownsRow_keep hM (fun x hx => by
    obtain ⟨cur, hc⟩ := row_kindR hM x hx
    exact Below.heap_setCell _ _ _ _ (fun e => by have e : x = g := e; rw [e] at hc; exact cells_ne hc hcK (by decide)))
  have hother : ∀ (i : Nat) (v : Value) (M : List Pk), i ≠ k → ks[i]? = some v → Ls[i]? = some M → PkRow b0 w' v M := fun i v M hi hv hM => ownsRow_keep (h.each i v M hv hM) (fun x hx => hg.block x (row_base (h.each i v M hv hM) x hx).2 (fun e => hi (h.apart i k v u x hv hu hx e.symm)))
  have hlt : ∀ (i : Nat) (v : Value) (M : List Pk) (x : Nat), ks[i]? = some v → Ls[i]? = some M → v.ownBlock = some x → x < w.heap.size := fun i v M x hv hM hx => (row_base (h.each i v M hv hM) x hx).2
  refine ⟨h.nl, by rw [List.length_set]; exact h.kl, by rw [List.length_set]; exact h.ll, ?_, ownsRow_set1 hK hk, fun i v M hv hM => ?_, fun i j v x gg hv hx e1 e2 => ?_, fun i M hM => ?_, ?_⟩
  · exact ownsRow_keep hN (fun x hx => by
      obtain ⟨cur, hc⟩ := row_kindR hN x hx
      exact Below.heap_setCell _ _ _ _ (fun e => by have e : x = g := e; rw [e] at hc; exact cells_ne hc hcK (by decide)))
  · by_cases hi : i = k
    · subst hi
      rw [List.getElem?_set_self (by rw [h.kl]; exact hk)] at hv
      rw [List.getElem?_set_self (by rw [h.ll]; exact hk)] at hM
      obtain rfl := Option.some.inj hv
      obtain rfl := Option.some.inj hM
      exact keepP _ _ ho
    · rw [List.getElem?_set_ne (fun e => hi e.symm)] at hv hM
      exact keepP _ _ (hother i v M hi hv hM)
  · have val : ∀ (i : Nat) (v : Value), (ks.set k u')[i]? = some v → v.ownBlock = some gg → (i = k ∧ (u.ownBlock = some gg ∨ gg = w.heap.size)) ∨ (i ≠ k ∧ ks[i]? = some v ∧ gg < w.heap.size) := fun i v hv hgg => by
      by_cases hi : i = k
      · subst hi
        rw [List.getElem?_set_self (by rw [h.kl]; exact hk)] at hv
        obtain rfl := Option.some.inj hv
        refine .inl ⟨rfl, ?_⟩
        rcases hblk with hb | hb
        · exact .inl (by rw [← hb]; exact hgg)
        · rw [hb] at hgg; exact .inr (Option.some.inj hgg).symm
      · rw [List.getElem?_set_ne (fun e => hi e.symm)] at hv
        obtain ⟨M, hM⟩ : ∃ M, Ls[i]? = some M := ⟨_, List.getElem?_eq_getElem (by rw [h.ll, ← h.kl]; exact (List.getElem?_eq_some_iff.1 hv).1)⟩
        exact .inr ⟨hi, hv, hlt i v M gg hv hM hgg⟩
    rcases val i v hv e1 with ⟨rfl, h1⟩ | ⟨hi, hv', h1⟩
    · rcases val j x hx e2 with ⟨rfl, -⟩ | ⟨hj, hx', h2⟩
      · rfl
      · rcases h1 with h1 | h1
        · exact h.apart _ _ u x gg hu hx' h1 e2
        · omega
    · rcases val j x hx e2 with ⟨rfl, h2⟩ | ⟨hj, hx', h2⟩
      · rcases h2 with h2 | h2
        · exact h.apart _ _ v u gg hv' hu e1 h2
        · omega
      · exact h.apart _ _ v x gg hv' hx' e1 e2
  · by_cases hi : i = k
    · subst hi
      rw [List.getElem?_set_self (by rw [h.ll]; exact hk)] at hM
      obtain rfl := Option.some.inj hM
      rw [List.length_append]
      exact Nat.add_le_add (h.few _ L hL) (Nat.le_refl _)
    · rw [List.getElem?_set_ne (fun e => hi e.symm)] at hM
      exact Nat.le_succ_of_le (h.few i M hM)
  · exact Nat.le_trans h.low (Nat.le_trans hg.size ((Ch.refl [g] w').setCell (p := ⟨g, k, none⟩) (.inl (List.mem_singleton_self _)) u').size)
theorem Kd.cell {k c : Nat} {a : Option Addr} (h : Kd b0 w vN (.slice a m c) n m t ns ks Ls) (hk : k < m) : ∃ g x L kx, a = some ⟨g, 0, none⟩ ∧ ks[k]? = some (.slice x L.length kx) ∧ Ls[k]? = some L ∧ w.cell? ⟨g, k, none⟩ = some (.slice x L.length kx) ∧ (∃ cur, w.heap[g]? = some (.cells cur 28 (0, 0))) ∧ L.length ≤ t := by
  obtain ⟨v, hv⟩ : ∃ v, ks[k]? = some v := ⟨_, List.getElem?_eq_getElem (by rw [h.kl]; exact hk)⟩
  obtain ⟨L, hL⟩ : ∃ L, Ls[k]? = some L := ⟨_, List.getElem?_eq_getElem (by rw [h.ll]; exact hk)⟩
  obtain ⟨x, kx, rfl⟩ := (h.each k v L hv hL).form
  rcases h.kinds.2 with ⟨e1, e2⟩ | ⟨g, cap, cur, e1, -, hgb, hle, -, -, h6⟩
  · omega
  · obtain ⟨rfl, -, rfl⟩ := Value.slice.inj e1
    refine ⟨g, x, L, kx, rfl, hv, hL, ?_, ⟨cur, hgb⟩, h.few k L hL⟩
    rw [cell_of_heap hgb, ← Array.getElem?_toList]
    rw [← h6, List.getElem?_take] at hv
    split at hv
    · exact hv
    · cases hv
theorem Kd.name {k c : Nat} {a : Option Addr} (h : Kd b0 w (.slice a n c) vK n m t ns ks Ls) (hk : k < n) : ∃ g y S, a = some ⟨g, 0, none⟩ ∧ ns[k]? = some y ∧ strV y = .string S ∧ w.cell? ⟨g, k, none⟩ = some (.string S) := by
  obtain ⟨y, hy⟩ : ∃ y, ns[k]? = some y := ⟨_, List.getElem?_eq_getElem (by rw [h.nl]; exact hk)⟩
  obtain ⟨S, -, hS, -, -⟩ := strV_is y
  have hv : (ns.map strV)[k]? = some (.string S) := by rw [List.getElem?_map, hy]; simp [hS]
  rcases h.names.2 with ⟨e1, e2⟩ | ⟨g, cap, cur, e1, -, hgb, hle, -, -, h6⟩
  · omega
  · obtain ⟨rfl, -, rfl⟩ := Value.slice.inj e1
    refine ⟨g, y, S, rfl, hy, hS, ?_⟩
    rw [cell_of_heap hgb, ← Array.getElem?_toList]
    rw [← h6, List.getElem?_take] at hv
    split at hv
    · exact hv
    · cases hv
theorem src_one {b : Nat} {u : Value} {st e ty : TypeId} (hu : Tryz.prog.underlying st = some (.slice e)) (h1 : u.oneCell' = true) (h : w.heap[b]? = some (.cells #[u] ty (0, 0))) : Src Tryz.prog 1 st (.slice (some ⟨b, 0, none⟩) 1 1) 1 [u] w :=
  Src.ofSlice _ hu ⟨b, 0, none⟩ 1 1 [u] rfl (fun j v hj => by
    rw [Addr.add_lit, Nat.zero_add, cell_of_heap h]
    simpa using hj) (fun v hv => by rw [List.mem_singleton.1 hv]; exact h1)
theorem infoStr : (Tryz.prog.info? 9).map (fun i => (i.zero, i.size, i.bytes)) = some (some (.string ByteArray.empty), 1, 16) := by kernel_rfl
theorem infoKd : (Tryz.prog.info? 28).map (fun i => (i.zero, i.size, i.bytes)) = some (some (.slice none 0 0), 1, 24) := by kernel_rfl
/-- The lists, as they are read. -/
def KdAt (w : World) (a : Option Addr) (m : Nat) (Ls : List (List Pk)) : Prop := Ls.length = m ∧ m ≤ 40 ∧ ∀ (i : Nat) (L : List Pk), Ls[i]? = some L → ∃ g c x n k, a = some ⟨g, 0, none⟩ ∧ w.cell? ⟨g, i, none⟩ = some (.slice x n k) ∧ n = L.length ∧ PkgsAt zAll w (.slice x n k) L ∧ L.length ≤ 40 ∧ m ≤ c
theorem KdAt.below {a : Option Addr} (h : KdAt w a m Ls) (hb : Below w.heap.size w w') : KdAt w' a m Ls :=
  ⟨h.1, h.2.1, fun i L hL => by obtain ⟨g, c, x, n, k, h1, h2, h3, h4, h5⟩ := h.2.2 i L hL; exact ⟨g, c, x, n, k, h1, below_keeps hb _ _ h2, h3, h4.below hb, h5⟩⟩
theorem Kd.at {a : Option Addr} {c : Nat} (h : Kd b0 w vN (.slice a m c) n m t ns ks Ls) (ht : t ≤ 40) (hm : m ≤ 40) : KdAt w a m Ls := by
  refine ⟨h.ll, hm, fun i L hL => ?_⟩
  have hi : i < m := by rw [← h.ll]; exact (List.getElem?_eq_some_iff.1 hL).1
  obtain ⟨v, hv⟩ : ∃ v, ks[i]? = some v := ⟨_, List.getElem?_eq_getElem (by rw [h.kl]; exact hi)⟩
  have hr := h.each i v L hv hL
  obtain ⟨x, k, rfl⟩ := hr.form
  have hfew := h.few i L hL
  rcases h.kinds.2 with ⟨e1, e2⟩ | ⟨g, cap, cur, e1, -, hgb, hle, -, -, h6⟩
  · omega
  · obtain ⟨rfl, -, rfl⟩ := Value.slice.inj e1
    refine ⟨g, c, x, L.length, k, rfl, ?_, rfl, hr.all (by omega), by omega, hle⟩
    rw [cell_of_heap hgb, ← Array.getElem?_toList]
    rw [← h6, List.getElem?_take] at hv
    split at hv
    · exact hv
    · cases hv
end Go.Proofs.YtnbeklmjinnbaaaGreat
