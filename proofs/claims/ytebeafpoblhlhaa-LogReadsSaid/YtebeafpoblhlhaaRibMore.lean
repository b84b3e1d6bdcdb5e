/- DERIVED. The walks of package ribbon, continued. -/
import Derived.Test.YtebeafpoblhlhaaRibWalks
namespace Go.Proofs.Ytebeafpoblhlhaa
open Go.RowKit
set_option linter.unusedVariables false

def RibSt.flushed (s : RibSt) : Int × RibSt :=
  if s.off then (70, s) else if s.acted.off then (70, s.acted) else (0, { s.acted with safe := s.acted.safe ++ s.acted.waits, waits := [] })
theorem flush_close {w w' W : World} {R : Nat} {vs vw : Value} {s : RibSt} {a' : Option Addr} {c' : Nat} (h : RibAt w R vs vw s) (hgrow : w.grownBy w' vs.ownBlock) (hO : Only R w' W)
    (n : Nat) (hn : n ≤ s.safe.length + s.waits.length)
    (hcells : W.heap[R]? = some (.cells #[.slice a' n c', .slice none 0 0, .bool s.off, .int .i64 s.acts, .int .i64 s.inn, .int .i64 s.keep] 56 (0, 0)))
    (hblk : (Value.slice a' (s.safe.length + s.waits.length) c').ownBlock = vs.ownBlock ∨ (Value.slice a' (s.safe.length + s.waits.length) c').ownBlock = some w.heap.size)
    (hown : w'.ownsRow 0 5 1 (.slice a' (s.safe.length + s.waits.length) c') (s.safe.length + s.waits.length) (bytesV s.safe ++ bytesV s.waits)) :
    RibTo w R vs vw { s with safe := (s.safe ++ s.waits).take n, waits := [] } W := by
  have hl : ((s.safe ++ s.waits).take n).length = n := by rw [List.length_take, List.length_append]; omega
  obtain ⟨a2, c2, e, hown2⟩ := owns_take hown n hn
  obtain ⟨rfl, rfl⟩ : a' = a2 ∧ c' = c2 := by simpa using e
  rw [← bytesV_append, ← bytesV_take] at hown2
  have hlen := h.len
  refine rib_close h hgrow hO a' n c' _ hcells ?_ ?_ rfl ?_ h.inn0 h.inn1 h.acts0
  · cases a' <;> exact hblk
  · show w'.ownsRow 0 _ 1 _ ((s.safe ++ s.waits).take n).length (bytesV ((s.safe ++ s.waits).take n))
    rw [hl]; exact hown2
  · show ((s.safe ++ s.waits).take n).length ≤ _
    rw [hl]; omega

set_option maxHeartbeats 1000000 in
theorem flush_any (w : World) (R : Nat) (vs vw : Value) (s : RibSt) (h : RibAt w R vs vw s) (ha : s.acts < 4611686018427387904) :
    Calls Try.prog 13 #[.pointer (some ⟨R, 0, none⟩)] w fun e w' => e = .returned (.int .i64 s.flushed.1) ∧ RibTo w R vs vw s.flushed.2 w' := by
  have hst := state_any w R vs vw s h
  have hact := act_any w R vs vw s h ha
  cases ho : s.off
  · rw [ho] at hst
    have HST := Lib.hid hst; clear hst
    have e : s.flushed = (if s.acted.off then (70, s.acted) else (0, { s.acted with safe := s.acted.safe ++ s.acted.waits, waits := [] })) := by unfold RibSt.flushed; rw [ho]; rfl
    rw [e]; clear e ho
    obtain ⟨t, ht⟩ : ∃ t, t = s.acted := ⟨_, rfl⟩
    rw [← ht] at hact ⊢
    cases hoff : t.off
    · rw [hoff] at hact
      have HA := Lib.hid hact; clear hact
      have HO := Lib.hid hoff; clear hoff ht
      obtain ⟨i0, hi, hz0, hz1, hz2⟩ := info_parts info5
      go_enter Try.func13, Try.ntmps13
      go_wp2_with fail
      refine (HST.out).mono ?_
      rintro e w' ⟨rfl, rfl⟩
      go_wp2_with fail
      refine (HA.out).mono ?_
      rintro e w1 ⟨rfl, vs1, vw1, r1, c1, f1⟩
      have h0 : w1.cell? ⟨R, 0, none⟩ = some vs1 := by rw [cell_of_heap r1.cells]; rfl
      have h1 : w1.cell? ⟨R, 1, none⟩ = some vw1 := by rw [cell_of_heap r1.cells]; rfl
      have hlen := r1.len
      obtain ⟨av, cs, rfl⟩ := owns_form r1.safe
      obtain ⟨aw, cw, rfl⟩ := owns_form r1.waits
      have hdst : w1.drew.ownsRow 0 5 1 (.slice av t.safe.length cs) t.safe.length (bytesV t.safe) := r1.safe
      have hsrc := (take_src (P := Try.prog) (w := w1.drew) Try.underlying22 r1.waits t.waits.length (Nat.le_refl _)).1
      rw [List.take_length] at hsrc
      have hre : ∀ (w' : World), w1.drew.grownBy w' (Value.slice av t.safe.length cs).ownBlock → w'.heap[R]? = some (.cells #[.slice av t.safe.length cs, .slice aw t.waits.length cw, .bool t.off, .int .i64 t.acts, .int .i64 t.inn, .int .i64 t.keep] 56 (0, 0)) := by
        intro w' hg
        rw [hg.block R r1.lt r1.ne_safe]; exact r1.cells
      have HRE := Lib.hid hre; have HH := Lib.hid r1; have HC := Lib.hid c1; have HF := Lib.hid f1; clear r1 hre c1 f1
      go_wp2_with fail
      go_region_law (refine step_append_srcs rfl (.tmp 16) (.tmp 20) 22 22 rfl 0 5 i0 (.int .u8 0) 1 1 Try.underlying22 hi hz0 hz1 hz2 rfl (by decide) _ (by simp [Act.eval]) _ _ hdst _ (by simp [Act.eval]) _ _ hsrc (by unfold maxLen; omega) (by omega) (Nat.zero_le _) ?_; intro a' c' w' hown hgrow _ hblk; have hR := HRE.out w' hgrow; have k0 := cell_of_heap hR 0; have k1 := cell_of_heap hR 1; have kf := frozen_of_heap hR; have HR := Lib.hid hR; clear hR)
      all_goals
        go_wp2
        go_ret
        have hfin := flush_close (W := (w'.setCell ⟨R, 0, none⟩ (.slice a' (t.safe.length + t.waits.length) c')).setCell ⟨R, 1, none⟩ (.slice none 0 0)) HH.out (grown_drew hgrow) ((Only.refl R _).setCell.setCell) (t.safe.length + t.waits.length) (Nat.le_refl _) (heap_setCell_here (.slice none 0 0) (heap_setCell_here (.slice a' (t.safe.length + t.waits.length) c') HR.out)) hblk hown
        rw [List.take_of_length_le (by rw [List.length_append]; exact Nat.le_refl _)] at hfin
        exact ⟨rfl, RibTo.trans HC.out HF.out hfin⟩
    · rw [hoff] at hact
      have HA := Lib.hid hact; clear hact ht
      go_enter Try.func13, Try.ntmps13
      go_wp2_with fail
      refine (HST.out).mono ?_
      rintro e w' ⟨rfl, rfl⟩
      go_wp2_with fail
      refine (HA.out).mono ?_
      rintro e w1 ⟨rfl, hto⟩
      have HT := Lib.hid hto; clear hto
      go_wp2
      go_ret
      exact ⟨rfl, HT.out⟩
  · have e : s.flushed = (70, s) := by unfold RibSt.flushed; rw [ho]; rfl
    rw [ho] at hst
    rw [e]
    have HST := Lib.hid hst; have HH := Lib.hid h; clear hst e h hact
    go_enter Try.func13, Try.ntmps13
    go_wp2_with fail
    refine (HST.out).mono ?_
    rintro e w' ⟨rfl, rfl⟩
    go_wp2
    go_ret
    exact ⟨rfl, RibTo.refl HH.out⟩

theorem Ch.undrewN {S : List Nat} {w w1 : World} {n : Nat} (h : Ch S (w.drewN n) w1) : Ch S w w1 := ⟨h.os, h.tape, h.output, h.size, h.block⟩
theorem RibTo.undrewN {w w1 : World} {n R : Nat} {vs vw : Value} {s : RibSt} (h : RibTo (w.drewN n) R vs vw s w1) : RibTo w R vs vw s w1 := by
  obtain ⟨a, b, h1, h2, h3⟩ := h
  exact ⟨a, b, h1, Ch.undrewN h2, h3⟩
/-! ### Cut -/
def RibSt.cutted (s : RibSt) (n : Int) : Int × RibSt :=
  if s.off then (70, s) else if n < 0 ∨ (s.safe.length : Int) + s.waits.length < n then (1, s)
  else if s.acted.off then (70, s.acted) else (0, { s.acted with safe := (s.acted.safe ++ s.acted.waits).take n.toNat, waits := [] })
theorem acted_sum (s : RibSt) (h : s.acted.off = false) : s.acted.safe = s.safe ∧ s.acted.waits = s.waits := by
  unfold RibSt.acted at h ⊢
  split
  · rename_i hi
    rw [if_pos hi] at h
    split
    · rename_i h1
      rw [if_pos h1] at h
      unfold RibSt.offed at h
      split at h
      · simp_all
      · simp at h
    · exact ⟨rfl, rfl⟩
  · exact ⟨rfl, rfl⟩
set_option maxHeartbeats 1000000 in
theorem cut_any (w : World) (R : Nat) (vs vw : Value) (s : RibSt) (h : RibAt w R vs vw s) (ha : s.acts < 4611686018427387904) (n : Int) :
    Calls Try.prog 17 #[.pointer (some ⟨R, 0, none⟩), .int .i64 n] w fun e w' => e = .returned (.int .i64 (s.cutted n).1) ∧ RibTo w R vs vw (s.cutted n).2 w' := by
  have hst := state_any w R vs vw s h
  have hact := act_any w R vs vw s h ha
  have hl0 := h.len
  have g0 : w.cell? ⟨R, 0, none⟩ = some vs := by rw [cell_of_heap h.cells]; rfl
  have g1 : w.cell? ⟨R, 1, none⟩ = some vw := by rw [cell_of_heap h.cells]; rfl
  have hfv := owns_form h.safe
  have hfw := owns_form h.waits
  cases ho : s.off
  · rw [ho] at hst
    have HST := Lib.hid hst; clear hst
    by_cases hneg : n < 0
    · have e : s.cutted n = (1, s) := by unfold RibSt.cutted; rw [ho, if_neg (by simp), if_pos (.inl hneg)]
      rw [e]; clear e ho
      have HH := Lib.hid h; clear h hact
      go_enter Try.func17, Try.ntmps17
      go_wp2_with fail
      refine (HST.out).mono ?_
      rintro e w' ⟨rfl, rfl⟩
      go_wp2_with fail
      go_quiet (fail)
      go_wp2
      go_ret
      exact ⟨rfl, RibTo.drewN HH.out _⟩
    · have hneg' : decide (n < 0) = false := by simpa using hneg
      obtain ⟨m, rfl⟩ : ∃ m : Nat, n = m := ⟨n.toNat, by omega⟩
      obtain ⟨av, cs, rfl⟩ := hfv
      obtain ⟨aw, cw, rfl⟩ := hfw
      by_cases hbig : s.safe.length + s.waits.length < m
      · have e : s.cutted m = (1, s) := by unfold RibSt.cutted; rw [ho, if_neg (by simp), if_pos (.inr (by omega))]
        rw [e]; clear e ho
        have HH := Lib.hid h; clear h hact
        go_enter Try.func17, Try.ntmps17
        go_wp2_with fail
        refine (HST.out).mono ?_
        rintro e w' ⟨rfl, rfl⟩
        go_wp2_with fail
        go_quiet (fail)
        go_wp2
        go_ret
        exact ⟨rfl, RibTo.drewN HH.out _⟩
      · have e : s.cutted m = (if s.acted.off then (70, s.acted) else (0, { s.acted with safe := (s.acted.safe ++ s.acted.waits).take m, waits := [] })) := by
          unfold RibSt.cutted; rw [ho, if_neg (by simp), if_neg (by omega)]; rfl
        rw [e]; clear e ho
        have hact2 := fun n => act_any (w.drewN n) R _ _ s (h.drewN n) ha
        have hsum := acted_sum s
        obtain ⟨t, ht⟩ : ∃ t, t = s.acted := ⟨_, rfl⟩
        rw [← ht] at hact2 hsum ⊢
        cases hoff : t.off
        · rw [hoff] at hact2
          have hsum2 := hsum hoff
          have HSUM := Lib.hid hsum2
          have HA := Lib.hid hact2; clear hact2 hact
          have HO := Lib.hid hoff; clear hoff ht hsum hsum2
          obtain ⟨i0, hi, hz0, hz1, hz2⟩ := info_parts info5
          have HH0 := Lib.hid h; clear h
          go_enter Try.func17, Try.ntmps17
          go_wp2_with fail
          refine (HST.out).mono ?_
          rintro e w' ⟨rfl, rfl⟩
          go_wp2_with fail
          go_quiet (fail)
          go_wp2_with fail
          refine (HA.out _).mono ?_
          rintro e w1 ⟨rfl, vs1, vw1, r1, c1, f1⟩
          have h0 : w1.cell? ⟨R, 0, none⟩ = some vs1 := by rw [cell_of_heap r1.cells]; rfl
          have h1 : w1.cell? ⟨R, 1, none⟩ = some vw1 := by rw [cell_of_heap r1.cells]; rfl
          have hlen := r1.len
          obtain ⟨av1, cs1, rfl⟩ := owns_form r1.safe
          obtain ⟨aw1, cw1, rfl⟩ := owns_form r1.waits
          have hdst : w1.drew.ownsRow 0 5 1 (.slice av1 t.safe.length cs1) t.safe.length (bytesV t.safe) := r1.safe
          have hsrc := (take_src (P := Try.prog) (w := w1.drew) Try.underlying22 r1.waits t.waits.length (Nat.le_refl _)).1
          rw [List.take_length] at hsrc
          have hmle : m ≤ t.safe.length + t.waits.length := by rw [HSUM.out.1, HSUM.out.2]; omega
          have hre : ∀ (w' : World), w1.drew.grownBy w' (Value.slice av1 t.safe.length cs1).ownBlock → w'.heap[R]? = some (.cells #[.slice av1 t.safe.length cs1, .slice aw1 t.waits.length cw1, .bool t.off, .int .i64 t.acts, .int .i64 t.inn, .int .i64 t.keep] 56 (0, 0)) := by
            intro w' hg
            rw [hg.block R r1.lt r1.ne_safe]; exact r1.cells
          have HRE := Lib.hid hre; have HH := Lib.hid r1; have HC := Lib.hid c1; have HF := Lib.hid f1; clear r1 hre c1 f1 g0 g1
          go_wp2_with fail
          go_region_law (refine step_append_srcs rfl (.tmp 35) (.tmp 39) 22 22 rfl 0 5 i0 (.int .u8 0) 1 1 Try.underlying22 hi hz0 hz1 hz2 rfl (by decide) _ (by simp [Act.eval]) _ _ hdst _ (by simp [Act.eval]) _ _ hsrc (by unfold maxLen; omega) (by omega) (Nat.zero_le _) ?_; intro a' c' w' hown hgrow _ hblk; have hR := HRE.out w' hgrow; have k0 := cell_of_heap hR 0; have k1 := cell_of_heap hR 1; have kf := frozen_of_heap hR; have HR := Lib.hid hR; clear hR; have hc' : m ≤ c' := by { have := owns_cap hown; omega })
          all_goals
            go_wp2
            go_ret
            have hfin := flush_close (W := (w'.setCell ⟨R, 0, none⟩ (.slice a' m c')).setCell ⟨R, 1, none⟩ (.slice none 0 0)) HH.out (grown_drew hgrow) ((Only.refl R _).setCell.setCell) m hmle (heap_setCell_here (.slice none 0 0) (heap_setCell_here (.slice a' m c') HR.out)) hblk hown
            exact ⟨rfl, RibTo.trans (w1 := w1) (Ch.undrewN HC.out) HF.out hfin⟩
        · rw [hoff] at hact2
          have HA := Lib.hid hact2; clear hact2 ht hact hsum hoff
          have HH0 := Lib.hid h; clear h
          go_enter Try.func17, Try.ntmps17
          go_wp2_with fail
          refine (HST.out).mono ?_
          rintro e w' ⟨rfl, rfl⟩
          go_wp2_with fail
          go_quiet (fail)
          go_wp2_with fail
          refine (HA.out _).mono ?_
          rintro e w1 ⟨rfl, hto⟩
          have HT : Hid (RibTo w R _ _ t w1) := Lib.hid (RibTo.undrewN hto); clear hto
          go_wp2
          go_ret
          exact ⟨rfl, HT.out⟩
  · have e : s.cutted n = (70, s) := by unfold RibSt.cutted; rw [ho]; rfl
    rw [ho] at hst
    rw [e]
    have HST := Lib.hid hst; have HH := Lib.hid h; clear hst e h hact
    go_enter Try.func17, Try.ntmps17
    go_wp2_with fail
    refine (HST.out).mono ?_
    rintro e w' ⟨rfl, rfl⟩
    go_wp2
    go_ret
    exact ⟨rfl, RibTo.refl HH.out⟩

/-! ### New, Read, On, Arm, Down, Acts; nil -/
def newRib (b : List UInt8) : RibSt := { safe := b.take 1048576, waits := [], off := false, acts := 0, inn := 0, keep := 0 }
set_option maxHeartbeats 1000000 in
theorem new_any (w : World) (vb : Value) (b : List UInt8) (hb : Rd w vb (bytesV b)) (hbl : b.length < 140737488355328) :
    Calls Try.prog 9 #[vb] w fun e w' => ∃ R vs vw, e = .returned (.pointer (some ⟨R, 0, none⟩)) ∧ RibAt w' R vs vw (newRib b) ∧ Below w.heap.size w w' ∧ ∀ k ∈ ribFoot R vs vw, w.heap.size ≤ k := by
  have hcp := hb
  obtain ⟨ab, cb, rfl, hcb, _⟩ := hcp
  rw [bytesV_length] at hb hcb
  rw [bytesV_length]
  obtain ⟨i0, hi, hz0, hz1, hz2⟩ := info_parts info5
  obtain ⟨n, hn, hnl⟩ : ∃ n : Nat, n = min b.length 1048576 ∧ n ≤ b.length := ⟨_, rfl, by omega⟩
  have hsrc : Src Try.prog 1 22 (.slice ab n cb) n (bytesV (b.take n)) (w.alloc (.cells #[] 5)) := by
    have hr := Rd.take (hb.below ((Below.refl _ w).alloc (Nat.le_refl _) (.cells #[] 5))) n hnl
    have := Rd.src (P := Try.prog) Try.underlying22 hr (bytesV_one _)
    rw [bytesV_length, List.length_take, Nat.min_eq_left hnl] at this
    exact this
  have hown0 := owns_empty w 5
  have HB := Lib.hid hb; have HS := Lib.hid hsrc; have HN := Lib.hid hn; have HO := Lib.hid hown0; clear hb hsrc hown0
  have fin : ∀ (w' : World) (a' : Option Addr) (c' : Nat), w'.ownsRow w.heap.size 5 1 (.slice a' (0 + n) c') (0 + n) ([] ++ bytesV (b.take n)) → (w.alloc (.cells #[] 5)).grownBy w' (some w.heap.size) →
      ∃ R vs vw, Ending.returned (.pointer (some ⟨w'.heap.size, 0, none⟩)) = .returned (.pointer (some ⟨R, 0, none⟩)) ∧ RibAt (w'.alloc (.cells #[.slice a' n c', .slice none 0 0, .bool false, .int .i64 0, .int .i64 0, .int .i64 0] 56)) R vs vw (newRib b) ∧ Below w.heap.size w (w'.alloc (.cells #[.slice a' n c', .slice none 0 0, .bool false, .int .i64 0, .int .i64 0, .int .i64 0] 56)) ∧ ∀ k ∈ ribFoot R vs vw, w.heap.size ≤ k := by
    intro w' a' c' hown hgrow
    simp only [Nat.zero_add, List.nil_append] at hown
    have hsz : w.heap.size + 1 ≤ w'.heap.size := by have := hgrow.size; simpa using this
    have hle : ∀ g, (Value.slice a' n c').ownBlock = some g → w.heap.size ≤ g ∧ g < w'.heap.size := by
      intro g hg
      refine ⟨?_, owns_lt hown g hg⟩
      rcases hown.2 with ⟨e, _⟩ | ⟨g', cap, cur, e, hb, _⟩
      · rw [e] at hg; cases hg
      · rw [e] at hg; obtain rfl := Option.some.inj hg; exact hb
    have hft : (ribFoot w'.heap.size (.slice a' n c') (.slice none 0 0)) = w'.heap.size :: (Value.slice a' n c').ownBlock.toList := by
      show _ :: (_ ++ []) = _
      rw [List.append_nil]
    have hbt : (newRib b).safe = b.take n := by
      show b.take 1048576 = b.take n
      rw [HN.out]
      by_cases h : b.length ≤ 1048576
      · rw [List.take_of_length_le h, List.take_of_length_le (by omega)]
      · rw [Nat.min_eq_right (by omega)]
    have hbl2 : (newRib b).safe.length = n := by rw [hbt, List.length_take]; omega
    refine ⟨w'.heap.size, .slice a' n c', .slice none 0 0, rfl, ⟨heap_alloc_new w' _, ?_, World.ownsRow_nil _ 0 _ 1, ?_, ?_, by simp [newRib], by simp [newRib], by simp [newRib]⟩, ?_, ?_⟩
    · rw [hbl2, hbt]
      exact ownsRow_keep (ownsRow_base hown) (fun g hg => Below.heap_alloc _ _ _ (hle g hg).2)
    · rw [hft]
      cases hb : (Value.slice a' n c').ownBlock with
      | none => simp
      | some g => simp; have := (hle g hb).2; omega
    · rw [hbl2]; show n + 0 ≤ _; have := HN.out; omega
    · exact ((((Below.refl _ w).alloc (Nat.le_refl _) _).grown hgrow (by simp) (fun k e => by have := Option.some.inj e; omega)).alloc (by omega) _)
    · rw [hft]
      intro k hk
      simp only [List.mem_cons, Option.mem_toList] at hk
      rcases hk with rfl | hk
      · omega
      · exact (hle k hk).1
  have FIN := Lib.hid fin; clear fin
  by_cases hbig : b.length ≤ 1048576
  · obtain rfl : n = b.length := by omega
    clear hn
    go_enter Try.func9, Try.ntmps9
    go_wp2_with (at_builtin; refine wpList_append_srcs rfl _ _ 22 22 rfl w.heap.size 5 i0 (.int .u8 0) 1 1 Try.underlying22 hi hz0 hz1 hz2 rfl (by decide) _ rfl _ _ HO.out _ rfl _ _ HS.out (by unfold maxLen; omega) (by omega) (by simp) ?_; intro a' c' w' hown hgrow _ hblk)
    go_ret
    have hfin := FIN.out w' a' c' hown hgrow
    first | exact hfin | (obtain ⟨R, vs, vw, h1, h2, h3, h4⟩ := hfin; exact ⟨R, h1, vs, vw, h2, h3, h4⟩)
  · obtain rfl : n = 1048576 := by omega
    clear hn
    go_enter Try.func9, Try.ntmps9
    go_wp2_with (at_builtin; refine wpList_append_srcs rfl _ _ 22 22 rfl w.heap.size 5 i0 (.int .u8 0) 1 1 Try.underlying22 hi hz0 hz1 hz2 rfl (by decide) _ rfl _ _ HO.out _ rfl _ _ HS.out (by unfold maxLen; omega) (by omega) (by simp) ?_; intro a' c' w' hown hgrow _ hblk)
    go_ret
    have hfin := FIN.out w' a' c' hown hgrow
    first | exact hfin | (obtain ⟨R, vs, vw, h1, h2, h3, h4⟩ := hfin; exact ⟨R, h1, vs, vw, h2, h3, h4⟩)
set_option maxHeartbeats 400000 in
theorem on_any (w : World) (R : Nat) (vs vw : Value) (s : RibSt) (h : RibAt w R vs vw s) :
    Calls Try.prog 16 #[.pointer (some ⟨R, 0, none⟩)] w fun e w' => e = .returned (.tuple #[]) ∧ RibTo w R vs vw { s with off := false } w' := by
  have h2 : w.cell? ⟨R, 2, none⟩ = some (.bool s.off) := by rw [cell_of_heap h.cells]; rfl
  have hf := frozen_of_heap h.cells
  have HH := Lib.hid h; clear h
  go_enter Try.func16, Try.ntmps16
  go_wp2
  go_end0
  exact ⟨rfl, RibTo.plain HH.out ((Only.refl R _).setCell) (heap_setCell_here _ HH.out.cells) rfl rfl HH.out.inn0 HH.out.inn1 HH.out.acts0⟩
set_option maxHeartbeats 400000 in
theorem arm_any (w : World) (R : Nat) (vs vw : Value) (s : RibSt) (h : RibAt w R vs vw s) (n k : Int) (hn : n < 9223372036854775808) :
    Calls Try.prog 24 #[.pointer (some ⟨R, 0, none⟩), .int .i64 n, .int .i64 k] w fun e w' => e = .returned (.tuple #[]) ∧ RibTo w R vs vw { s with inn := max n 0, keep := k } w' := by
  have h4 : w.cell? ⟨R, 4, none⟩ = some (.int .i64 s.inn) := by rw [cell_of_heap h.cells]; rfl
  have h5 : w.cell? ⟨R, 5, none⟩ = some (.int .i64 s.keep) := by rw [cell_of_heap h.cells]; rfl
  have hf := frozen_of_heap h.cells
  have HH := Lib.hid h; clear h
  by_cases h0 : n < 0
  · go_enter Try.func24, Try.ntmps24
    go_wp2
    go_end0
    rw [show max n 0 = 0 from by omega]
    exact ⟨rfl, RibTo.plain HH.out ((Only.refl R _).setCell.setCell) (heap_setCell_here _ (heap_setCell_here _ HH.out.cells)) rfl rfl (by simp) (by simp) HH.out.acts0⟩
  · go_enter Try.func24, Try.ntmps24
    go_wp2
    go_end0
    rw [show max n 0 = n from by omega]
    exact ⟨rfl, RibTo.plain HH.out ((Only.refl R _).setCell.setCell) (heap_setCell_here _ (heap_setCell_here _ HH.out.cells)) rfl rfl (by show 0 ≤ n; omega) hn HH.out.acts0⟩
set_option maxHeartbeats 400000 in
theorem down_any (w : World) (R : Nat) (vs vw : Value) (s : RibSt) (h : RibAt w R vs vw s) :
    Calls Try.prog 15 #[.pointer (some ⟨R, 0, none⟩)] w fun e w' => e = .returned (.bool s.off) ∧ w = w' := by
  have h2 : w.cell? ⟨R, 2, none⟩ = some (.bool s.off) := by rw [cell_of_heap h.cells]; rfl
  go_enter Try.func15, Try.ntmps15
  go_wp2
  go_ret
  exact ⟨rfl, rfl⟩
set_option maxHeartbeats 400000 in
theorem acts_any (w : World) (R : Nat) (vs vw : Value) (s : RibSt) (h : RibAt w R vs vw s) :
    Calls Try.prog 12 #[.pointer (some ⟨R, 0, none⟩)] w fun e w' => e = .returned (.int .i64 s.acts) ∧ w = w' := by
  have h2 : w.cell? ⟨R, 3, none⟩ = some (.int .i64 s.acts) := by rw [cell_of_heap h.cells]; rfl
  go_enter Try.func12, Try.ntmps12
  go_wp2
  go_ret
  exact ⟨rfl, rfl⟩
set_option maxHeartbeats 1000000 in
theorem read_any (w : World) (R : Nat) (vs vw : Value) (s : RibSt) (h : RibAt w R vs vw s) (ho : s.off = false) :
    Calls Try.prog 11 #[.pointer (some ⟨R, 0, none⟩)] w fun e w' => ∃ a c, e = .returned (.tuple #[.slice a (s.safe.length + s.waits.length) c, .int .i64 0]) ∧ w'.ownsRow w.heap.size 5 1 (.slice a (s.safe.length + s.waits.length) c) (s.safe.length + s.waits.length) (bytesV (s.safe ++ s.waits)) ∧ Below w.heap.size w w' := by
  have hst := state_any w R vs vw s h
  rw [ho] at hst
  have h0 : w.cell? ⟨R, 0, none⟩ = some vs := by rw [cell_of_heap h.cells]; rfl
  have h1 : w.cell? ⟨R, 1, none⟩ = some vw := by rw [cell_of_heap h.cells]; rfl
  have HH := Lib.hid h; have HST := Lib.hid hst; clear h hst
  go_enter Try.func11, Try.ntmps11
  go_wp2_with fail
  refine (HST.out).mono ?_
  rintro e w' ⟨rfl, rfl⟩
  obtain ⟨i0, hi, hz0, hz1, hz2⟩ := info_parts info5
  have hlen := HH.out.len
  have hown0 : ((w.alloc (.cells #[] 5)).drew).ownsRow w.heap.size 5 1 (.slice (some ⟨w.heap.size, 0, none⟩) 0 0) 0 [] := owns_empty w 5
  obtain ⟨av, cs, rfl⟩ := owns_form HH.out.safe
  obtain ⟨aw, cw, rfl⟩ := owns_form HH.out.waits
  have hb0 : Below w.heap.size w (w.alloc (.cells #[] 5)).drew := ((Below.refl _ w).alloc (Nat.le_refl _) _).drew
  have hsrcS : ∀ W : World, Below w.heap.size w W → Src Try.prog 1 22 (.slice av s.safe.length cs) s.safe.length (bytesV s.safe) W := fun W hW => by
    have := ((Rd.of_owns HH.out.safe).below hW).src (P := Try.prog) Try.underlying22 (bytesV_one _)
    rw [bytesV_length] at this; exact this
  have hsrcW : ∀ W : World, Below w.heap.size w W → Src Try.prog 1 22 (.slice aw s.waits.length cw) s.waits.length (bytesV s.waits) W := fun W hW => by
    have := ((Rd.of_owns HH.out.waits).below hW).src (P := Try.prog) Try.underlying22 (bytesV_one _)
    rw [bytesV_length] at this; exact this
  have q0 : (w.alloc (.cells #[] 5)).cell? ⟨R, 0, none⟩ = some (.slice av s.safe.length cs) := by rw [← h0]; exact ((Below.refl _ w).alloc (Nat.le_refl _) (.cells #[] 5)).cell HH.out.lt
  have q1 : (w.alloc (.cells #[] 5)).cell? ⟨R, 1, none⟩ = some (.slice aw s.waits.length cw) := by rw [← h1]; exact ((Below.refl _ w).alloc (Nat.le_refl _) (.cells #[] 5)).cell HH.out.lt
  have hstep : ∀ w' : World, ((w.alloc (.cells #[] 5)).drew).grownBy w' (some w.heap.size) → Below w.heap.size w w' ∧ w'.cell? ⟨R, 1, none⟩ = some (.slice aw s.waits.length cw) ∧ w.heap.size ≤ w'.heap.size := fun w' hg => by
    have hb : Below w.heap.size w w' := hb0.grown hg (by simp) (fun k e => by have := Option.some.inj e; omega)
    exact ⟨hb, by rw [← h1]; exact hb.cell HH.out.lt, hb.size⟩
  have HO := Lib.hid hown0; have HB0 := Lib.hid hb0; have HSS := Lib.hid hsrcS; have HSW := Lib.hid hsrcW; have HST := Lib.hid hstep; clear hown0 hb0 hsrcS hsrcW hstep
  go_wp2_with fail
  go_region_law (first | (refine step_append_srcs rfl (.tmp 10) (.tmp 14) 22 22 rfl w.heap.size 5 i0 (.int .u8 0) 1 1 Try.underlying22 hi hz0 hz1 hz2 rfl (by decide) _ (by simp [Act.eval]) _ _ HO.out _ (by simp [Act.eval]) _ _ (HSS.out _ HB0.out) (by unfold maxLen; omega) (by omega) (by simp) ?_; intro a' c' w' hown hgrow _ hblk; rw [Nat.zero_add, List.nil_append] at hown; rw [Nat.zero_add] at hblk; obtain ⟨hb1, k1, hs1⟩ := HST.out w' hgrow; have HB1 := Lib.hid hb1; have HW1 := Lib.hid hown; clear hb1 hown) | (refine step_append_srcs rfl (.tmp 15) (.tmp 19) 22 22 rfl w.heap.size 5 i0 (.int .u8 0) 1 1 Try.underlying22 hi hz0 hz1 hz2 rfl (by decide) _ (by simp [Act.eval]) _ _ HW1.out _ (by simp [Act.eval]) _ _ (HSW.out _ HB1.out) (by unfold maxLen; omega) (by omega) (by assumption) ?_; intro a2 c2 w2 hown2 hgrow2 _ hblk2))
  all_goals
    go_wp2
    go_ret2
    refine ⟨a2, c2, rfl, by rw [bytesV_append]; exact hown2, HB1.out.grown hgrow2 hs1 (fun k e => owns_ge HW1.out k e)⟩
end Go.Proofs.Ytebeafpoblhlhaa
