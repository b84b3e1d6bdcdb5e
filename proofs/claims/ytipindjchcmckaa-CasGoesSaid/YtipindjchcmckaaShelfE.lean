/- DERIVED. The walk of Put of a shelf, texts by texts. -/
import Derived.Test.YtipindjchcmckaaShelfD
namespace Go.Proofs.Ytipindjchcmckaa
open Go.RowKit
set_option linter.unusedVariables false

/-- What Put makes of the pairs. -/
def PutRel (ps : List Pr) (k val : List UInt8) (old : List UInt8) (had : Bool) (ps' : List Pr) : Prop :=
  (had = true ∧ (k, old) ∈ ps ∧ ∃ i, ps[i]? = some (k, old) ∧ ps' = ps.set i (k, val)) ∨ (had = false ∧ old = [] ∧ (∀ v, (k, v) ∉ ps) ∧ ∃ i, Pos ps k i ∧ ps' = insAt ps i (k, val))
theorem pairsV_set (ps : List Pr) (i : Nat) (k old val : List UInt8) (h : ps[i]? = some (k, old)) : pairsV (ps.set i (k, val)) = (pairsV ps).set (i * 2 + 1) (strV val) := by
  induction ps generalizing i with
  | nil => cases h
  | cons p ps ih =>
    cases i with
    | zero =>
      obtain rfl := Option.some.inj h
      simp [pairsV, pairV]
    | succ i =>
      have := ih i (by simpa using h)
      rw [Nat.add_mul]
      simp only [pairsV, List.set_cons_succ, List.flatMap_cons, pairV, List.cons_append, List.nil_append] at this ⊢
      rw [this]
theorem set_srt {ps : List Pr} (hs : Srt ps) (i : Nat) (k old val : List UInt8) (h : ps[i]? = some (k, old)) : Srt (ps.set i (k, val)) := by
  have e : (ps.set i (k, val)).map Prod.fst = ps.map Prod.fst := by
    rw [List.map_set]
    apply List.ext_getElem?
    intro j
    rw [List.getElem?_set]
    split
    · rename_i hj; subst hj
      rw [List.getElem?_map, h]
      have := (List.getElem?_eq_some_iff.1 h).1
      simp [this]
    · rfl
  have h1 : (ps.map Prod.fst).Pairwise (fun a b => Op.bytesLess a b = true) := List.pairwise_map.2 hs
  rw [← e] at h1
  exact List.pairwise_map.1 h1
theorem owns_setCell {w : World} {g i c : Nat} {ps : List Pr} {k old val : List UInt8} (h : w.ownsRow 0 61 2 (.slice (some ⟨g, 0, none⟩) ps.length c) ps.length (pairsV ps)) (hi : ps[i]? = some (k, old)) :
    (w.setCell ⟨g, i * 2 + 1, none⟩ (strV val)).ownsRow 0 61 2 (.slice (some ⟨g, 0, none⟩) ps.length c) (ps.set i (k, val)).length (pairsV (ps.set i (k, val))) := by
  rw [List.length_set]
  rcases h.2 with ⟨e, _⟩ | ⟨g', cap, cur, e, h1, h2, h3, h4, h5, h6⟩
  · cases e
  · obtain ⟨e1, _, rfl⟩ := Value.slice.inj e
    obtain rfl : g = g' := by injection e1 with e1; injection e1
    refine ⟨by rw [pairsV_length, List.length_set], .inr ⟨g, c, _, rfl, h1, heap_setCell_here _ h2, h3, h4, by simpa using h5, ?_⟩⟩
    rw [pairsV_set ps i k old val hi, ← h6, Array.toList_setIfInBounds, List.take_set]
theorem put_closed {w w1 W : World} {S : Nat} {v v' : Value} {ps ps' : List Pr} (h : ShAt w S v ps) (hc : Ch (shFoot S v) w W) (hcells : W.heap[S]? = some (.cells #[v'] 57 (0, 0))) (hrow : W.ownsRow 0 61 2 v' ps'.length (pairsV ps'))
    (hs : Srt ps') (hb : v'.ownBlock = v.ownBlock ∨ ∃ k, v'.ownBlock = some k ∧ w.heap.size ≤ k) : ShTo w S v ps' W := by
  refine ⟨v', ⟨hcells, hrow, ?_, hs⟩, hc, ?_⟩
  · rcases hb with e | ⟨k, e, hk⟩
    · rw [e]; exact h.apart
    · rw [e]; intro e; have := Option.some.inj e; have := lt_of_heap h.cells; omega
  · intro k hk
    rcases List.mem_cons.1 hk with rfl | hk
    · exact .inl (by simp [shFoot])
    · rcases hb with e | ⟨k', e, hk'⟩
      · rw [e] at hk; exact .inl (by simp [shFoot] at hk ⊢; exact .inr hk)
      · rw [e] at hk
        obtain rfl : k' = k := by have := hk; simp at this; exact this.symm
        exact .inr hk'
def PutTo (w : World) (S : Nat) (v : Value) (ps : List Pr) (k val : List UInt8) (e : Ending) (w' : World) : Prop :=
  ∃ old had ps', e = .returned (.tuple #[strV old, .bool had]) ∧ PutRel ps k val old had ps' ∧ ShTo w S v ps' w'
set_option maxRecDepth 100000 in
set_option maxHeartbeats 1000000 in
theorem shput_any (w : World) (S : Nat) (v : Value) (ps : List Pr) (k val : List UInt8) (h : ShAt w S v ps) (hl : ps.length ≤ 999999) :
    Calls Try.prog 21 #[.pointer (some ⟨S, 0, none⟩), strV k, strV val] w (PutTo w S v ps k val) := by
  obtain ⟨a, c, rfl⟩ := owns_form h.row
  have HF := Lib.hid (find_any w S _ ps k h (by omega))
  have HH := Lib.hid h; clear h
  unfold strV
  go_enter Try.func21, Try.ntmps21
  go_wp2_with fail
  refine HF.out.mono ?_
  rintro e w1 ⟨i, b, rfl, h1, h2, h3⟩
  have hk := (HH.out.below h3)
  have k0 := cell_of_heap hk.cells 0
  have kf := frozen_of_heap hk.cells
  have hil0 := h1.le
  cases b
  · have h2' : ∀ v, (k, v) ∉ ps := fun v hv => by have := h2.2 ⟨v, hv⟩; cases this
    have HB := Lib.hid h3; have HP := Lib.hid h1; have H2 := Lib.hid h2'; have HK := Lib.hid hk
    have hSl := lt_of_heap hk.cells
    have hins := ins_any (w1.alloc (.cells #[strV k, strV val] 61)) 0 a c i ps w1.heap.size (k, val) (hk.below ((Below.refl _ _).alloc (Nat.le_refl _) _)).row (heap_alloc_new w1 _) (fun e => by have := owns_lt hk.row _ e; omega) (Nat.zero_le _) (by omega) h1.le
    unfold strV at hins
    have HI := Lib.hid hins
    clear h1 h2 h3 h2' hk hins
    go_wp2_with fail
    refine HI.out.mono ?_
    rintro e w2 ⟨a2, c2, rfl, hown, hgrow, hblk⟩
    have hS : w2.heap[S]? = some (.cells #[.slice a ps.length c] 57 (0, 0)) := by
      rw [hgrow.block S (by simp; omega) (fun e => HK.out.apart e.symm), Below.heap_alloc w1 _ S hSl]
      exact HK.out.cells
    have k2 := cell_of_heap hS 0
    have kf2 := frozen_of_heap hS
    have HS := Lib.hid hS; have HO := Lib.hid hown; have HG := Lib.hid hgrow; have HBK := Lib.hid hblk
    clear hS hown hgrow hblk
    go_wp2_with fail
    go_ret2
    refine ⟨[], false, _, rfl, .inr ⟨rfl, rfl, H2.out, i, HP.out, rfl⟩, ?_⟩
    have hlen : (insAt ps i (k, val)).length = ps.length + 1 := insAt_length _ _ _ hil0
    have hch : Ch (shFoot S (.slice a ps.length c)) w w1 := Ch.of_below HB.out _
    refine put_closed (w1 := w1) HH.out ?_ (heap_setCell_here _ HS.out) ?_ (HP.out.srt HH.out.srt H2.out) ?_
    · exact ((hch.alloc _).grown HG.out (fun k hk => .inl (by simp [shFoot, hk]))).setCell (.inl (by simp [shFoot])) _
    · rw [hlen]
      refine ownsRow_keep HO.out (fun g hg => Below.heap_setCell _ _ _ _ ?_)
      rintro rfl
      rcases HBK.out with e | e
      · exact HH.out.apart (by rw [← e]; exact hg)
      · rw [e] at hg
        have := Option.some.inj hg
        simp at this
        omega
    · rcases HBK.out with e | e
      · exact .inl e
      · exact .inr ⟨_, e, by simp; have := HB.out.size; omega⟩
  · obtain ⟨old, hold⟩ := h2.1 rfl
    have hat := h1.at HH.out.srt hold
    have hil := (List.getElem?_eq_some_iff.1 hat).1
    have hne : ps ≠ [] := by intro e; rw [e] at hil; exact absurd hil (Nat.not_lt_zero _)
    obtain ⟨g, rfl, hg, hc⟩ := (RdPairs.of_owns hk.row) hne
    obtain ⟨c0, c1⟩ := hc _ _ hat
    have hfz : w1.frozen? ⟨g, i * 2 + 1, none⟩ = false := by
      rcases hk.row.2 with ⟨e, _⟩ | ⟨g', cap, cur, e, _, h2, _⟩
      · cases e
      · obtain ⟨e1, _, _⟩ := Value.slice.inj e
        obtain rfl : g = g' := by injection e1 with e1; injection e1
        exact frozen_of_heap h2 _
    have HV := Lib.hid hold; have H3 := Lib.hid h3; have HA := Lib.hid hat; have HK := Lib.hid hk; clear h1 h2 h3 hc hold hat hk
    go_wp2_with fail
    go_ret2
    have hgS : g ≠ S := fun e => HH.out.apart (by simp [Value.ownBlock, e])
    refine ⟨old, true, _, rfl, .inl ⟨rfl, HV.out, i, HA.out, rfl⟩, ?_⟩
    refine put_closed (w1 := w1) HH.out ((Ch.of_below H3.out _).setCell (.inl (by simp [shFoot, Value.ownBlock])) _) ((Below.heap_setCell _ _ _ S (by simpa using hgS.symm)).trans HK.out.cells) (owns_setCell (val := val) HK.out.row HA.out) (set_srt HH.out.srt i k old val HA.out) (.inl ?_)
    rfl
end Go.Proofs.Ytipindjchcmckaa
