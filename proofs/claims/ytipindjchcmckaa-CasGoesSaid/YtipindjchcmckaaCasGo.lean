/- DERIVED. CasGoes: the walks of Clone and All; what a round keeps. -/
import Derived.Test.YtipindjchcmckaaCasHo
import Derived.Test.YtipindjchcmckaaOver
namespace Go.Proofs.Ytipindjchcmckaa
open Go.RowKit Go.Shelf
set_option linter.unusedVariables false

theorem owns_none2 (W : World) (t : TypeId) : (W.alloc (.cells #[] t)).ownsRow W.heap.size t 2 (.slice (some ⟨W.heap.size, 0, none⟩) 0 0) 0 [] :=
  ⟨rfl, .inr ⟨W.heap.size, 0, #[], rfl, Nat.le_refl _, heap_alloc_new W _, Nat.le_refl _, by unfold maxLen; omega, rfl, rfl⟩⟩
/-- A copy of pairs, in new memory. -/
def CloneTo (w : World) (ps : List Pr) (e : Ending) (w' : World) : Prop :=
  ∃ a' c', e = .returned (.slice a' ps.length c') ∧ RdPairs w' a' ps ∧ Below w.heap.size w w' ∧ (a' = none ∨ ∃ g, a' = some ⟨g, 0, none⟩ ∧ w.heap.size ≤ g ∧ g < w'.heap.size ∧ ∃ o, w'.heap[g]? = some o ∧ o.isCells = true)
set_option maxHeartbeats 1000000 in
theorem clone_any (w : World) (a : Option Addr) (c : Nat) (ps : List Pr) (h : w.ownsRow 0 61 2 (.slice a ps.length c) ps.length (pairsV ps)) (hl : ps.length ≤ 1000000) :
    Calls Try.prog 38 #[.slice a ps.length c] w (CloneTo w ps) := by
  have hq := fun (w : World) (a : Option Addr) (n c : Nat) => Lib.run_eql_slice_nil (P := Try.prog) w 55 61 a n c 0 0 Try.underlying55
  rcases h.2 with ⟨e1, e2⟩ | ⟨g, cap, cur, e1, _, hg, hle, hcm, hcs, ht⟩
  · obtain ⟨rfl, _, rfl⟩ := Value.slice.inj e1
    obtain rfl : ps = [] := List.eq_nil_of_length_eq_zero e2
    clear h e1 e2
    go_enter Try.func38, Try.ntmps38
    go_wp2
    go_ret
    exact ⟨none, 0, rfl, (fun h => absurd rfl h), Below.refl _ _, .inl rfl⟩
  · obtain ⟨rfl, _, rfl⟩ := Value.slice.inj e1
    have hb1 : Below w.heap.size w (w.alloc (.cells #[] 61)) := (Below.refl _ w).alloc (Nat.le_refl _) _
    have hg1 := (Below.heap_alloc w (.cells #[] 61) g (lt_of_heap hg)).trans hg
    have hsrc : Src Try.prog 2 55 (.slice (some ⟨g, 0, none⟩) ps.length c) ps.length (pairsV ps) (w.alloc (.cells #[] 61)) := by
      refine Src.ofSlice _ Try.underlying55 ⟨g, 0, none⟩ ps.length c (pairsV ps) (pairsV_length ps) (fun j u hj => ?_) (pairsV_one ps)
      rw [Addr.add_lit, Nat.zero_add, cell_of_heap hg1]
      rw [← ht, List.getElem?_take] at hj
      split at hj
      · rw [← Array.getElem?_toList]; exact hj
      · cases hj
    obtain ⟨i0, hi, hz0, hz1, hz2⟩ := info_parts infoPair
    have HB1 := Lib.hid hb1
    clear h e1 hb1 hg1 ht hg hcs
    unfold maxLen at hcm
    go_enter Try.func38, Try.ntmps38
    go_wp2_with (at_builtin; refine wpList_append_srcs rfl (.tmp 5) (.tmp 6) 55 55 rfl w.heap.size 61 i0 _ 2 32 Try.underlying55 hi hz0 hz1 hz2 rfl (by decide) (.slice (some ⟨w.heap.size, 0, none⟩) 0 0) rfl 0 [] (owns_none2 w 61) (.slice (some ⟨g, 0, none⟩) ps.length c) rfl _ _ hsrc (by unfold maxLen; omega) (by omega) (by simp) ?_; intro a' c' w' hown hgrow hnil _; simp only [Nat.zero_add, List.nil_append] at hown)
    go_wp2
    go_ret
    refine ⟨a', c', rfl, RdPairs.of_owns hown, HB1.out.grown hgrow HB1.out.size (fun k e => Nat.le_of_eq (show w.heap.size = k from Option.some.inj e)), ?_⟩
    rcases hown.2 with ⟨e, _⟩ | ⟨g', cap', cur', e, g1, g2, _⟩
    · exact .inl (Value.slice.inj e).1
    · exact .inr ⟨g', (Value.slice.inj e).1, g1, lt_of_heap g2, _, g2, rfl⟩
/-- What All answers: a function value over a copy. -/
def AllTo (w : World) (ps : List Pr) (e : Ending) (w' : World) : Prop :=
  ∃ C g a' c', e = .returned (.func (.func 43) #[] #[.pointer (some ⟨C, 0, none⟩)]) ∧ w'.heap[C]? = some (.cells #[.slice a' ps.length c'] 55 (0, 0)) ∧ RdPairs w' a' ps ∧ (∀ b, a' = some ⟨b, 0, none⟩ → b = g) ∧ w.heap.size ≤ C ∧ w.heap.size ≤ g ∧ g < w'.heap.size ∧ Below w.heap.size w w'
set_option maxHeartbeats 1000000 in
theorem shall_any (w : World) (S : Nat) (v : Value) (ps : List Pr) (h : ShAt w S v ps) (hl : ps.length ≤ 1000000) :
    Calls Try.prog 30 #[.pointer (some ⟨S, 0, none⟩)] w (AllTo w ps) := by
  obtain ⟨a, c, rfl⟩ := owns_form h.row
  have k0 := cell_of_heap h.cells 0
  have HC := Lib.hid (clone_any w a c ps h.row hl)
  clear h
  go_enter Try.func30, Try.ntmps30
  go_wp2_with fail
  refine HC.out.mono ?_
  rintro e w1 ⟨a', c', rfl, h1, h2, h3⟩
  have H1 := Lib.hid h1; have H2 := Lib.hid h2; have H3 := Lib.hid h3; clear h1 h2 h3
  go_wp2_with fail
  refine (over_any w1 _ a' ps.length c' rfl).mono ?_
  rintro e w2 ⟨rfl, e2⟩
  have E2 := Lib.hid e2; clear e2
  go_wp2_with fail
  go_ret
  have hb2 : Below w1.heap.size w1 w2 := by rw [E2.out]; exact (Below.refl _ w1).alloc (Nat.le_refl _) _
  have hC : w2.heap[w1.heap.size]? = some (.cells #[.slice a' ps.length c'] 55 (0, 0)) := by rw [E2.out]; exact heap_alloc_new w1 _
  rcases H3.out with rfl | ⟨g, rfl, g1, g2, _⟩
  · exact ⟨w1.heap.size, w1.heap.size, none, c', rfl, hC, H1.out.below hb2, (fun b e => by cases e), H2.out.size, H2.out.size, lt_of_heap hC, H2.out.trans (hb2.mono H2.out.size)⟩
  · refine ⟨w1.heap.size, g, some ⟨g, 0, none⟩, c', rfl, hC, H1.out.below hb2, (fun b e => ?_), H2.out.size, g1, Nat.lt_of_lt_of_le g2 hb2.size, H2.out.trans (hb2.mono H2.out.size)⟩
    injection e with e; injection e with e; exact e.symm
set_option maxHeartbeats 1000000 in
theorem call_any (w : World) (P S : Nat) (v : Value) (wd : Int) (ps : List Pr) (h : StAt w P S v wd ps) (hl : ps.length ≤ 1000000) :
    Calls Try.prog 18 #[.pointer (some ⟨P, 0, none⟩)] w (AllTo w ps) := by
  obtain ⟨h0, h1⟩ := h.at
  have HC := Lib.hid (shall_any w S v ps h.sh hl)
  clear h
  go_enter Try.func18, Try.ntmps18
  go_wp2_with fail
  refine HC.out.mono ?_
  rintro e w1 ⟨C, g, a', c', rfl, r1, r2, r3, r4, r5, r6, r7⟩
  have R1 := Lib.hid r1; have R2 := Lib.hid r2; have R3 := Lib.hid r3; have R7 := Lib.hid r7; clear r1 r2 r3 r7
  go_wp2_with fail
  go_ret
  exact ⟨C, g, a', c', rfl, R1.out, R2.out, R3.out, r4, r5, r6, R7.out⟩
theorem keeps_below {w w' : World} (h : Below w.heap.size w w') : KeepsOthers w w' := ⟨h.size, fun k o hk _ => (h.block k (Array.getElem?_eq_some_iff.1 hk).1).trans hk⟩
theorem keeps_ch {S : List Nat} {w w' : World} (h : Ch S w w') (hS : ∀ k ∈ S, ∃ o, w.heap[k]? = some o ∧ o.isCells = true) : KeepsOthers w w' :=
  ⟨h.size, fun k o hk ho => (h.block k (Array.getElem?_eq_some_iff.1 hk).1 (fun hk' => by
    obtain ⟨o', h1, h2⟩ := hS k hk'
    rw [hk] at h1
    obtain rfl := Option.some.inj h1
    rw [ho] at h2; cases h2)).trans hk⟩
theorem owns_cells {w : World} {base : Nat} {e : TypeId} {size : Nat} {v : Value} {n : Nat} {xs : List Value} (h : w.ownsRow base e size v n xs) (g : Nat) (hg : v.ownBlock = some g) : ∃ o, w.heap[g]? = some o ∧ o.isCells = true := by
  rcases h.2 with ⟨rfl, _⟩ | ⟨g', cap, cur, rfl, _, h2, _⟩
  · cases hg
  · obtain rfl : g' = g := by simpa [Value.ownBlock] using hg
    exact ⟨_, h2, rfl⟩
theorem StAt.cellsAll {w : World} {P S : Nat} {v : Value} {wd : Int} {ps : List Pr} (h : StAt w P S v wd ps) : ∀ k ∈ stFoot P S v, ∃ o, w.heap[k]? = some o ∧ o.isCells = true := by
  intro k hk
  rcases List.mem_cons.1 hk with rfl | hk
  · exact ⟨_, h.cells, rfl⟩
  · rcases List.mem_cons.1 hk with rfl | hk
    · exact ⟨_, h.sh.cells, rfl⟩
    · exact owns_cells h.sh.row k (by simpa using hk)
/-- Put, with what it keeps. -/
theorem with_put2 {B : Nat} {w0 w : World} {P : Nat} {wd : Int} {ps : List Pr} {F : List Nat} (h : CasWith B w0 P wd ps F w) (hl : ps.length ≤ 999999) (b : List UInt8) (hb : b.length ≤ 140737488351232) :
    Calls Try.prog 11 #[.pointer (some ⟨P, 0, none⟩), strV b] w fun e w' => ∃ key err ps', e = .returned (.tuple #[strV key, .int .i64 err]) ∧ CputRel wd ps b key err ps' ∧ CasWith B w0 P wd ps' F w' ∧ (∀ k ∈ F, w'.heap[k]? = w.heap[k]?) ∧ KeepsOthers w w' := by
  obtain ⟨S, v, h1, h2, h3, h4, h5⟩ := h
  refine (cput_any w P S v wd ps h1 hl b hb).mono ?_
  rintro e w' ⟨key, err, ps', rfl, hr, v', g1, g2, g3⟩
  refine ⟨key, err, ps', rfl, hr, ⟨S, v', g1, fun k hk => ?_, fun k hk => Nat.lt_of_lt_of_le (h3 k hk) g2.size, h4.trans (below_of_ch g2 (fun k hk => (h2 k hk).1) h5), Nat.le_trans h5 g2.size⟩, fun k hk => g2.block k (h3 k hk) (fun hf => (h2 k hf).2 hk), keeps_ch g2 h1.cellsAll⟩
  rcases g3 k hk with h | h
  · exact h2 k h
  · exact ⟨Nat.le_trans h5 h, fun hF => by have := h3 k hF; omega⟩
/-- Two stores: the second empty, among the blocks that stay. -/
structure GoesInv (B : Nat) (w0 : World) (P Q T : Nat) (wd : Int) (snap ps : List Pr) (F : List Nat) (W : World) : Prop where
  st : CasWith B w0 P wd ps F W
  sub : ∀ p ∈ snap, p ∈ ps
  o : StAt W Q T (.slice none 0 0) wd []
  inF : Q ∈ F ∧ T ∈ F
section
variable {B : Nat} {w0 W W' : World} {P Q T : Nat} {wd : Int} {snap ps ps' : List Pr} {F : List Nat}
theorem foot_nil (Q T : Nat) : ∀ k ∈ stFoot Q T (.slice none 0 0), k = Q ∨ k = T := by
  intro k hk
  simpa [stFoot, shFoot, Value.ownBlock] using hk
theorem GoesInv.same (h : GoesInv B w0 P Q T wd snap ps F W) (hs : CasWith B w0 P wd ps' F W') (hsub : ∀ p ∈ ps, p ∈ ps') (hk : W'.heap[Q]? = W.heap[Q]? ∧ W'.heap[T]? = W.heap[T]?) : GoesInv B w0 P Q T wd snap ps' F W' :=
  ⟨hs, fun p hp => hsub p (h.sub p hp), h.o.keep (fun k hk' => by rcases foot_nil Q T k hk' with rfl | rfl; exact hk.1; exact hk.2), h.inF⟩
theorem GoesInv.below (h : GoesInv B w0 P Q T wd snap ps F W) (hb : Below W.heap.size W W') : GoesInv B w0 P Q T wd snap ps F W' :=
  ⟨h.st.below hb, h.sub, h.o.below hb, h.inF⟩
theorem cput_sub {b key : List UInt8} {err : Int} (h : CputRel wd ps b key err ps') : ∀ p ∈ ps, p ∈ ps' := by
  intro p hp
  rcases h with ⟨_, _, _, rfl⟩ | ⟨_, _, _, _, rfl⟩ | ⟨_, _, _, h4, _⟩
  · exact hp
  · exact hp
  · exact (h4 p).2 (.inr hp)
/-- A block of the law's own book-keeping turns. -/
theorem CasWith.other {row : Option Nat} (h : CasWith B w0 P wd ps F W) (hg : W.grownBy W' row) (hr : ∀ r, row = some r → B ≤ r ∧ ∃ o : Obj, W.heap[r]? = some o ∧ o.isCells = false) : CasWith B w0 P wd ps F W' := by
  obtain ⟨S, v, h1, h2, h3, h4, h5⟩ := h
  have hch : Ch row.toList W W' := (Ch.refl _ W).grown hg (fun k hk => .inl (by simp [hk]))
  refine ⟨S, v, h1.keep (fun k hk => hg.block k (h1.lt k hk) (fun e => ?_)), h2, fun k hk => Nat.lt_of_lt_of_le (h3 k hk) hg.size, h4.trans (below_of_ch hch (fun k hk => (hr k (by simpa using hk)).1) h5), Nat.le_trans h5 hg.size⟩
  obtain ⟨_, o, g1, g2⟩ := hr k e.symm
  obtain ⟨o', g3, g4⟩ := h1.cellsAll k hk
  rw [g1] at g3
  obtain rfl := Option.some.inj g3
  rw [g2] at g4; cases g4
theorem CasWith.ltF (h : CasWith B w0 P wd ps F W) : ∀ k ∈ F, k < W.heap.size := by
  obtain ⟨S, v, h1, h2, h3, h4, h5⟩ := h
  exact h3
/-- A cell of a block of F is written. -/
theorem CasWith.wrote (h : CasWith B w0 P wd ps F W) {b i : Nat} (hb : b ∈ F) (hB : B ≤ b) (x : Value) : CasWith B w0 P wd ps F (W.setCell ⟨b, i, none⟩ x) := by
  have hO : Only b W (W.setCell ⟨b, i, none⟩ x) := (Only.refl b W).setCell
  refine h.grown (row := some b) ⟨hO.os, hO.tape, hO.output, Nat.le_of_eq hO.size.symm, fun k hk hne => hO.block k (fun e => hne (by rw [e]))⟩ (fun k e => ?_) (fun k hk => .inl hk)
  obtain rfl : b = k := Option.some.inj e
  exact ⟨hb, hB⟩
end
end Go.Proofs.Ytipindjchcmckaa
