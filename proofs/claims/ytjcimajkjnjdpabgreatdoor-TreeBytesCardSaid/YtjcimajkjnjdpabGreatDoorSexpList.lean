/- DERIVED. List (the part of SexpAlive that other seats need). -/
import Derived.Test.YtjcimajkjnjdpabGreatDoorSexpAtA
import Derived.Laws.EntriesVeiled
namespace Go.Proofs.YtjcimajkjnjdpabGreatDoor
open Go.RowKit
set_option linter.unusedVariables false
set_option maxRecDepth 100000

theorem nodeInfo : (Tryz.prog.info? 50).map (fun i => (i.zero, i.size, i.bytes)) = some (some (.agg #[.bool false, .string ⟨#[]⟩, .slice none 0 0]), 3, 48) := by kernel_rfl
/-- The nodes of a row that is read. -/
def KidsVA (w : World) : List T → List Value → Prop
  | [], [] => True
  | t :: ts, v0 :: v1 :: v2 :: xs => NodeAt w t v0 v1 v2 ∧ KidsVA w ts xs
  | _, _ => False
theorem KidsVA.len {w : World} : ∀ {ts : List T} {xs : List Value}, KidsVA w ts xs → xs.length = ts.length * 3
  | [], [], _ => rfl
  | t :: ts, v0 :: v1 :: v2 :: xs, h => by have := KidsVA.len h.2; simp [this]; omega
  | [], _ :: _, h => h.elim
  | _ :: _, [], h => h.elim
  | _ :: _, [_], h => h.elim
  | _ :: _, [_, _], h => h.elim
theorem KidsVA.below {w w' : World} (hb : Below w.heap.size w w') : ∀ {ts : List T} {xs : List Value}, KidsVA w ts xs → KidsVA w' ts xs
  | [], [], _ => trivial
  | t :: ts, v0 :: v1 :: v2 :: xs, h => ⟨h.1.below hb, KidsVA.below hb h.2⟩
  | [], _ :: _, h => h.elim
  | _ :: _, [], h => h.elim
  | _ :: _, [_], h => h.elim
  | _ :: _, [_, _], h => h.elim
theorem NodeAt.form {w : World} {t : T} {v0 v1 v2 : Value} (h : NodeAt w t v0 v1 v2) : ∃ l s a n c, v0 = .bool l ∧ v1 = .string s ∧ v2 = .slice a n c := by
  obtain ⟨e0, e1, _, _, a, c, e2, _⟩ := h.open
  exact ⟨_, _, _, _, _, e0, e1, e2⟩
theorem KidsVA.one {w : World} : ∀ {ts : List T} {xs : List Value}, KidsVA w ts xs → ∀ u ∈ xs, u.oneCell' = true
  | [], [], _, u, hu => by cases hu
  | t :: ts, v0 :: v1 :: v2 :: xs, h, u, hu => by
    obtain ⟨l, s, a, n, c, rfl, rfl, rfl⟩ := h.1.form
    simp only [List.mem_cons] at hu
    rcases hu with rfl | rfl | rfl | hu
    · rfl
    · rfl
    · rfl
    · exact KidsVA.one h.2 u hu
  | [], _ :: _, h, _, _ => h.elim
  | _ :: _, [], h, _, _ => h.elim
  | _ :: _, [_], h, _, _ => h.elim
  | _ :: _, [_, _], h, _, _ => h.elim
theorem KidsVA.kids {w : World} {b : Nat} : ∀ {ts : List T} {xs : List Value} {o : Nat}, KidsVA w ts xs → (∀ (i : Nat) (u : Value), xs[i]? = some u → w.cell? ⟨b, o + i, none⟩ = some u) → KidsAt w b o ts
  | [], [], o, _, _ => by unfold KidsAt; trivial
  | t :: ts, v0 :: v1 :: v2 :: xs, o, h, hc => by
    unfold KidsAt
    refine ⟨⟨v0, v1, v2, hc 0 _ rfl, hc 1 _ rfl, hc 2 _ rfl, h.1⟩, KidsVA.kids h.2 fun i u hi => ?_⟩
    have := hc (i + 3) u (by simpa using hi)
    rwa [show o + (i + 3) = o + 3 + i from by omega] at this
  | [], _ :: _, o, h, _ => h.elim
  | _ :: _, [], o, h, _ => h.elim
  | _ :: _, [_], o, h, _ => h.elim
  | _ :: _, [_, _], o, h, _ => h.elim
theorem KidsAt.row {w : World} {b : Nat} : ∀ {ts : List T} {o : Nat}, KidsAt w b o ts → ∃ xs, KidsVA w ts xs ∧ ∀ (i : Nat) (u : Value), xs[i]? = some u → w.cell? ⟨b, o + i, none⟩ = some u
  | [], o, _ => ⟨[], trivial, fun i u h => by cases h⟩
  | t :: ts, o, h => by
    unfold KidsAt at h
    obtain ⟨⟨v0, v1, v2, h0, h1, h2, h3⟩, h4⟩ := h
    obtain ⟨xs, k1, k2⟩ := KidsAt.row h4
    refine ⟨v0 :: v1 :: v2 :: xs, ⟨h3, k1⟩, fun i u hi => ?_⟩
    match i with
    | 0 => obtain rfl := Option.some.inj hi; exact h0
    | 1 => obtain rfl := Option.some.inj hi; exact h1
    | 2 => obtain rfl := Option.some.inj hi; exact h2
    | i + 3 =>
      have := k2 i u (by simpa using hi)
      rwa [show o + 3 + i = o + (i + 3) from by omega] at this
theorem agg_of_cells {v u0 u1 u2 : Value} (h : v.cells.toList = [u0, u1, u2]) : v = .agg #[u0, u1, u2] := by
  cases v <;> simp [Value.cells] at h
  rename_i cs
  rw [show cs = #[u0, u1, u2] from Array.ext' h]
/-- A slice of nodes that is read, as a source of an append. -/
def SlAt (w : World) (v : Value) (ts : List T) : Prop := ∃ xs, KidsVA w ts xs ∧ Src Tryz.prog 3 48 v ts.length xs w ∧ ts.length ≤ 140737488351232
theorem sl_of_kids {w : World} {a : Option Addr} {c : Nat} {ts : List T} (hl : ts.length ≤ 140737488351232) (hc : a = none → c = 0) (hlc : ts.length ≤ c) (h : ts = [] ∨ ∃ b o, a = some ⟨b, o, none⟩ ∧ KidsAt w b o ts) : SlAt w (.slice a ts.length c) ts := by
  rcases h with rfl | ⟨b, o, rfl, h⟩
  · refine ⟨[], trivial, ?_, Nat.zero_le _⟩
    cases a with
    | none => exact Src.ofNil w Tryz.underlying48 c
    | some ad => exact Src.ofSlice w Tryz.underlying48 ad 0 c [] rfl (fun j u h => by cases h) (fun _ h => by cases h)
  · obtain ⟨xs, h1, h2⟩ := h.row
    exact ⟨xs, h1, Src.ofSlice w Tryz.underlying48 ⟨b, o, none⟩ _ c xs h1.len (fun j u h => by rw [Addr.add_lit]; exact h2 j u h) h1.one, hl⟩
theorem NodeAt.sl {w : World} {t : T} {v0 v1 v2 : Value} (h : NodeAt w t v0 v1 v2) : SlAt w v2 t.kids := by
  obtain ⟨leaf, atom, kids⟩ := t
  unfold NodeAt at h
  obtain ⟨h0, h1, h2, h3, a, c, rfl, h5, h6, h7, h8⟩ := h
  exact sl_of_kids h3 h7 h5 h8
theorem owns_empty3 (w : World) (e : TypeId) : (w.alloc (.cells #[] e)).ownsRow w.heap.size e 3 (.slice (some ⟨w.heap.size, 0, none⟩) 0 0) 0 [] :=
  ⟨rfl, .inr ⟨w.heap.size, 0, #[], rfl, Nat.le_refl _, heap_alloc_new w _, Nat.le_refl _, Nat.zero_le _, rfl, rfl⟩⟩
/-- What List answers: the nodes in a row of its own. -/
def ListX (w : World) (ts : List T) (xs : List Value) (e : Ending) (w' : World) : Prop := ∃ a c, e = .returned (.agg #[.bool false, .string ⟨#[]⟩, .slice a ts.length c]) ∧ Below w.heap.size w w' ∧ KidsVA w ts xs ∧ w'.ownsRow w.heap.size 50 3 (.slice a ts.length c) ts.length xs
def ListTo (w : World) (ts : List T) (e : Ending) (w' : World) : Prop := ∃ a c xs, e = .returned (.agg #[.bool false, .string ⟨#[]⟩, .slice a ts.length c]) ∧ Below w.heap.size w w' ∧ KidsVA w ts xs ∧ w'.ownsRow w.heap.size 50 3 (.slice a ts.length c) ts.length xs
theorem ListTo.node {w w' : World} {ts : List T} {a : Option Addr} {c : Nat} {xs : List Value} (hl : ts.length ≤ 140737488351232) (hb : Below w.heap.size w w') (hk : KidsVA w ts xs) (ho : w'.ownsRow w.heap.size 50 3 (.slice a ts.length c) ts.length xs) :
    NodeAt w' (.mk false [] ts) (.bool false) (.string ⟨#[]⟩) (.slice a ts.length c) := by
  unfold NodeAt
  have hcap := owns_cap ho
  rcases ho.2 with ⟨he, hx⟩ | ⟨g, cap, cur, he, hg0, hg, hn, hm, hc, ht⟩
  · obtain ⟨rfl, h0, rfl⟩ := Value.slice.inj he
    refine ⟨rfl, rfl, Nat.zero_le _, hl, none, 0, rfl, hcap.1, hcap.2, fun _ => rfl, .inl (List.eq_nil_of_length_eq_zero h0)⟩
  · obtain ⟨rfl, _, rfl⟩ := Value.slice.inj he
    refine ⟨rfl, rfl, Nat.zero_le _, hl, _, c, rfl, hcap.1, hcap.2, (fun h => (Option.some_ne_none _ h).elim), .inr ⟨g, 0, rfl, ?_⟩⟩
    refine KidsVA.kids (hk.below hb) fun i u hi => ?_
    rw [cell_of_heap hg, Nat.zero_add]
    rw [← ht, List.getElem?_take] at hi
    split at hi
    · simpa using hi
    · cases hi
set_option maxHeartbeats 1000000 in
theorem list_anyx (w : World) (ts : List T) (a0 : Option Addr) (c0 : Nat) (xs : List Value) (hk : KidsVA w ts xs) (hl : ts.length ≤ 2932031007402) (hlc : ts.length ≤ c0) (hs : ∀ W, Below w.heap.size w W → Src Tryz.prog 3 48 (.slice a0 ts.length c0) ts.length xs W) :
    Calls Tryz.prog 21 #[.slice a0 ts.length c0] w (ListX w ts xs) := by
  obtain ⟨iN, hiN, hz0, hz1, hz2⟩ := info_parts nodeInfo
  have hb1 : Below w.heap.size w (w.alloc (.cells #[.bool false, .string ⟨#[]⟩, .slice none 0 0] 50)) := (Below.refl _ w).alloc (Nat.le_refl _) _
  have hbx := heap_alloc_new w (.cells #[.bool false, .string ⟨#[]⟩, .slice none 0 0] 50)
  obtain ⟨w1, hw1⟩ : ∃ w1, w.alloc (.cells #[.bool false, .string ⟨#[]⟩, .slice none 0 0] 50) = w1 := ⟨_, rfl⟩
  rw [hw1] at hb1 hbx
  have hz : w1.heap.size = w.heap.size + 1 := by rw [← hw1]; simp
  have hb2 : Below w1.heap.size w1 (w1.alloc (.cells #[] 50)) := (Below.refl _ w1).alloc (Nat.le_refl _) _
  have hsrc := hs _ (hb1.trans (hb2.mono hb1.size))
  obtain ⟨n, hn⟩ : ∃ n, n = ts.length := ⟨_, rfl⟩
  have hfin : ∀ (a' : Option Addr) (c' : Nat) (w' : World) v0 v1 v2, w'.ownsRow w1.heap.size 50 3 (.slice a' (0 + n) c') (0 + n) ([] ++ xs) → (w1.alloc (.cells #[] 50)).grownBy w' (some w1.heap.size) →
      w'.heap[w.heap.size]? = some (.cells #[.bool false, .string ⟨#[]⟩, .slice none 0 0] 50 (0, 0)) ∧ ListX w ts xs (.returned (.agg #[.bool false, .string ⟨#[]⟩, .slice a' (0 + n) c'])) (((w'.setCell ⟨w.heap.size, 0, none⟩ v0).setCell ⟨w.heap.size, 1, none⟩ v1).setCell ⟨w.heap.size, 2, none⟩ v2) := by
    intro a' c' w' v0 v1 v2 ho hg
    rw [Nat.zero_add, hn, List.nil_append] at ho
    have hbb : Below w1.heap.size w1 w' := hb2.grown hg hb2.size (fun k e => Nat.le_of_eq (show w1.heap.size = k from Option.some.inj e))
    refine ⟨by rw [hbb.block _ (by omega)]; exact hbx, a', c', by rw [Nat.zero_add, hn], ?_, hk, ?_⟩
    · exact (((hb1.trans (hbb.mono hb1.size)).setCell (by simp) _).setCell (by simp) _).setCell (by simp) _
    · have key : ∀ g, (Value.slice a' ts.length c').ownBlock = some g → w.heap.size ≠ g := fun g hg => by have := owns_ge ho g hg; omega
      have h1 := ownsRow_keep (w' := ((w'.setCell ⟨w.heap.size, 0, none⟩ v0).setCell ⟨w.heap.size, 1, none⟩ v1).setCell ⟨w.heap.size, 2, none⟩ v2) ho (fun g hg => by
        rw [Below.heap_setCell _ _ _ _ (by simp; have := key g hg; omega), Below.heap_setCell _ _ _ _ (by simp; have := key g hg; omega), Below.heap_setCell _ _ _ _ (by simp; have := key g hg; omega)])
      obtain ⟨h2, h3⟩ := h1
      refine ⟨h2, ?_⟩
      rcases h3 with h3 | ⟨g, cap, cur, e, h4, h5⟩
      · exact .inl h3
      · exact .inr ⟨g, cap, cur, e, by omega, h5⟩
  rw [← hn] at hsrc hlc hl ⊢
  have HF := Lib.hid hfin; have HS := Lib.hid hsrc
  have HE := Lib.hid (owns_empty3 w1 50)
  clear hfin hsrc hs hb1 hb2 hbx hz hn hk
  go_enter Tryz.func21, Tryz.ntmps21
  go_wp2_with (first | (at_builtin; refine wpList_append_srcs rfl (.tmp 3) (.tmp 4) 48 48 rfl w1.heap.size 50 iN (.agg #[.bool false, .string ⟨#[]⟩, .slice none 0 0]) 3 48 Tryz.underlying48 hiN hz0 hz1 hz2 rfl (by decide) _ rfl _ _ HE.out _ rfl _ _ HS.out (by unfold maxLen; omega) (by omega) (by simp) ?_; intro a' c' w4 hown hgrow _ hblk; have h4 := (HF.out a' c' w4 undef undef undef hown hgrow).1; have q0 := cell_of_heap h4 0; have q1 := cell_of_heap h4 1; have q2 := cell_of_heap h4 2; have qf := frozen_of_heap h4; have H4 := fun v0 v1 v2 => Lib.hid (HF.out a' c' w4 v0 v1 v2 hown hgrow).2; clear h4 hown hgrow hblk) | fail)
  have H5 := (H4 (.bool false) (.string ⟨#[]⟩) (.slice a' n c')).out
  rw [Nat.zero_add] at H5
  have H6 := Lib.hid H5
  clear H4 H5
  refine bodyPost_ret (by simp [results, Tryz.results21, go_sem, q0, q1, q2]; rfl) rfl ?_
  exact H6.out
theorem list_any (w : World) (ts : List T) (a0 : Option Addr) (c0 : Nat) (xs : List Value) (hk : KidsVA w ts xs) (hl : ts.length ≤ 2932031007402) (hlc : ts.length ≤ c0) (hs : ∀ W, Below w.heap.size w W → Src Tryz.prog 3 48 (.slice a0 ts.length c0) ts.length xs W) :
    Calls Tryz.prog 21 #[.slice a0 ts.length c0] w (ListTo w ts) :=
  (list_anyx w ts a0 c0 xs hk hl hlc hs).mono fun _ _ ⟨a, c, h⟩ => ⟨a, c, xs, h⟩
end Go.Proofs.YtjcimajkjnjdpabGreatDoor
