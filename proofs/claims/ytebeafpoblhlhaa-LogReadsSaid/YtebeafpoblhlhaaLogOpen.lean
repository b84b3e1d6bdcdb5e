/- DERIVED. The walk of log.Open. -/
import Derived.Test.YtebeafpoblhlhaaLogSplit
import Derived.Test.YtebeafpoblhlhaaRibLaws
namespace Go.Proofs.Ytebeafpoblhlhaa
open Go.RowKit
set_option linter.unusedVariables false

/-- A log of the call's own, in block L, on the ribbon in block R. -/
def LogOwn (B : Nat) (w0 : World) (R L : Nat) (n : Int) (s : RibSt) (w : World) : Prop := ∃ vs vw, RibAt w R vs vw s ∧ (∀ k ∈ ribFoot R vs vw, B ≤ k ∧ k ≠ L) ∧ B ≤ L ∧ Below B w0 w ∧ B ≤ w.heap.size ∧ w.heap[L]? = some (.cells #[.pointer (some ⟨R, 0, none⟩), .int .i64 n, .int .i64 0] 60 (0, 0))
theorem LogOwn.own {B : Nat} {w0 w : World} {R L : Nat} {n : Int} {s : RibSt} (h : LogOwn B w0 R L n s w) : Own B w0 R s w := by
  obtain ⟨vs, vw, h1, h2, h3, h4, h5, h6⟩ := h
  exact ⟨vs, vw, h1, fun k hk => (h2 k hk).1, h4, h5⟩
theorem LogOwn.cell {B : Nat} {w0 w : World} {R L : Nat} {n : Int} {s : RibSt} (h : LogOwn B w0 R L n s w) : w.cell? ⟨L, 1, none⟩ = some (.int .i64 n) := by
  obtain ⟨vs, vw, h1, h2, h3, h4, h5, h6⟩ := h
  rw [cell_of_heap h6]; rfl
theorem LogOwn.below {B : Nat} {w0 w w' : World} {R L : Nat} {n : Int} {s : RibSt} (h : LogOwn B w0 R L n s w) (hb : Below w.heap.size w w') : LogOwn B w0 R L n s w' := by
  obtain ⟨vs, vw, h1, h2, h3, h4, h5, h6⟩ := h
  exact ⟨vs, vw, h1.keep (fun k hk => hb.block k (h1.foot_lt k hk)), h2, h3, h4.trans (hb.mono h5), Nat.le_trans h5 hb.size, (hb.block L (lt_of_heap h6)).trans h6⟩
theorem Own.log {B : Nat} {w0 w : World} {R : Nat} {n : Int} {s : RibSt} (h : Own B w0 R s w) : LogOwn B w0 R w.heap.size n s (w.alloc (.cells #[.pointer (some ⟨R, 0, none⟩), .int .i64 n, .int .i64 0] 60)) := by
  obtain ⟨vs, vw, h1, h2, h3, h4⟩ := h
  exact ⟨vs, vw, h1.keep (fun k hk => Below.heap_alloc _ _ _ (h1.foot_lt k hk)), fun k hk => ⟨h2 k hk, by have := h1.foot_lt k hk; omega⟩, h4, h3.alloc h4 _, Nat.le_trans h4 (by simp), heap_alloc_new w _⟩
theorem cutted_plain (s : RibSt) (n : Nat) (ho : s.off = false) (hi : s.inn = 0) (hn : n ≤ s.safe.length + s.waits.length) : s.cutted n = (0, { s with safe := (s.safe ++ s.waits).take n, waits := [], acts := s.acts + 1 }) := by
  unfold RibSt.cutted
  rw [acted_plain s hi]
  rw [if_neg (by simp [ho]), if_neg (by omega), if_neg (by simp [ho])]
  simp
theorem own_cut_row {B : Nat} {w0 w1 w2 : World} {R : Nat} {s : RibSt} (h : Own B w0 R s w1) (hb : Below w1.heap.size w1 w2) (ha : s.acts < 4611686018427387904) (n : Int) (x : Int) (s' : RibSt) (hs : s.cutted n = (x, s')) {t : TypeId} {v : Value} {k : Nat} {xs : List Value} (hown : w2.ownsRow w1.heap.size t 1 v k xs) :
    Calls Try.prog 17 #[.pointer (some ⟨R, 0, none⟩), .int .i64 n] w2 fun e w' => e = .returned (.int .i64 x) ∧ Own B w0 R s' w' ∧ w'.ownsRow 0 t 1 v k xs := by
  obtain ⟨vs, vw, h1, h2, h3, h4⟩ := h
  have h1' : RibAt w2 R vs vw s := h1.keep (fun k hk => hb.block k (h1.foot_lt k hk))
  refine (cut_any w2 R vs vw s h1' ha n).mono fun e w' ⟨he, ht⟩ => ?_
  rw [hs] at he ht
  have ht' := ht
  obtain ⟨vs', vw', _, q2, _⟩ := ht'
  exact ⟨he, Own.step h2 (h3.trans (hb.mono h4)) (Nat.le_trans h4 hb.size) ht, ownsRow_keep (ownsRow_base hown) (fun g hg => q2.block g (owns_lt hown g hg) (fun hF => by have := h1.foot_lt g hF; have := owns_ge hown g hg; omega))⟩
def OpenTo (B : Nat) (w0 : World) (R : Nat) (rs : List (List UInt8)) (s' : RibSt) (e : Ending) (w' : World) : Prop :=
  ∃ L a c, e = .returned (.tuple #[.pointer (some ⟨L, 0, none⟩), .slice a rs.length c, .int .i64 0]) ∧ LogOwn B w0 R L rs.length s' w' ∧ RdStrs w' a rs
set_option maxHeartbeats 1000000 in
theorem open_any {B : Nat} {w0 w : World} {R : Nat} {s : RibSt} (h : Own B w0 R s w) (ho : s.off = false) (hi : s.inn = 0) (ha : s.acts < 140737488351232) (rs : List (List UInt8)) (tail last : List UInt8) (hb : s.safe ++ s.waits = frames rs ++ tail)
    (ht : tail = (frame last).take tail.length) (htl : tail.length < 3 + last.length) (hlast : last.length ≤ 65536) (hrs : ∀ r ∈ rs, r.length ≤ 65536) (s' : RibSt) (hs' : s' = if tail = [] then s else { s with safe := frames rs, waits := [], acts := s.acts + 1 }) :
    Calls Try.prog 28 #[.pointer (some ⟨R, 0, none⟩)] w (OpenTo B w0 R rs s') := by
  obtain ⟨l, hl⟩ : ∃ l, l = s.safe ++ s.waits := ⟨_, rfl⟩
  have hlen : l.length ≤ 1048576 := by
    obtain ⟨_, _, h1, _⟩ := h
    have := h1.len
    rw [hl, List.length_append]; exact this
  have hll : l.length = (frames rs).length + tail.length := by rw [hl, hb, List.length_append]
  have hr := own_read_to h ho l hl.symm
  have HR := Lib.hid hr; clear hr
  have hrl : 3 * rs.length ≤ (frames rs).length := frames_ge rs
  by_cases htn : tail = []
  · rw [if_pos htn] at hs'; subst hs'
    have ht0 : tail.length = 0 := by rw [htn]; rfl
    have hF : (frames rs).length = l.length := by omega
    have HF := Lib.hid hF
    have HB := Lib.hid (hl.trans hb); have HT := Lib.hid ht
    clear hb ht htn hll hl ht0 hF
    go_enter Try.func28, Try.ntmps28
    go_wp2_with fail
    refine (HR.out).mono ?_
    rintro e w1 ⟨a, c, rfl, hw1, ow1, bw1⟩
    have OW1 := Lib.hid ow1; have HW1 := Lib.hid hw1; clear ow1 hw1 bw1
    go_wp2_with fail
    refine (split_any w1 a c rs tail last l HB.out (Rd.of_owns HW1.out) hlen HT.out htl hlast hrs).mono ?_
    rintro e w2 ⟨a2, c2, rfl, hr2, hb2⟩
    rw [HF.out]
    have OW2 := Lib.hid (OW1.out.below hb2); have HR2 := Lib.hid hr2; clear hr2 hb2
    go_wp2_with fail
    go_ret3
    exact ⟨_, a2, c2, rfl, OW2.out.log, (RdStrs.of_owns HR2.out).below ((Below.refl _ w2).alloc (Nat.le_refl _) _)⟩
  · rw [if_neg htn] at hs'
    have ht0 : 0 < tail.length := by
      rcases Nat.eq_zero_or_pos tail.length with h | h
      · exact absurd (List.eq_nil_of_length_eq_zero h) htn
      · exact h
    have hcp := cutted_plain s (frames rs).length ho hi (by have := congrArg List.length hl; rw [List.length_append] at this; omega)
    have e : (s.safe ++ s.waits).take (frames rs).length = frames rs := by rw [hb, List.take_left]
    rw [e, ← hs'] at hcp
    have HCP := Lib.hid hcp
    have HB := Lib.hid (hl.trans hb); have HT := Lib.hid ht
    obtain ⟨F, hF⟩ : ∃ F, F = (frames rs).length := ⟨_, rfl⟩
    rw [← hF] at hll hrl
    have HF := Lib.hid hF.symm
    have hFl : F < l.length := by omega
    clear hb ht htn hll hl hcp e hs' hF
    go_enter Try.func28, Try.ntmps28
    go_wp2_with fail
    refine (HR.out).mono ?_
    rintro e w1 ⟨a, c, rfl, hw1, ow1, bw1⟩
    have OW1 := Lib.hid ow1; have HW1 := Lib.hid hw1; clear ow1 hw1 bw1
    go_wp2_with fail
    refine (split_any w1 a c rs tail last l HB.out (Rd.of_owns HW1.out) hlen HT.out htl hlast hrs).mono ?_
    rintro e w2 ⟨a2, c2, rfl, hr2, hb2⟩
    rw [HF.out]
    have hcut := own_cut_row OW1.out hb2 (by omega) F 0 s' (by have := HCP.out; rw [HF.out] at this; exact this) hr2
    have HC := Lib.hid hcut; clear hr2 hb2 hcut
    go_wp2_with fail
    refine (HC.out).mono ?_
    rintro e w3 ⟨rfl, ow3, hr3⟩
    have OW3 := Lib.hid ow3; have HR3 := Lib.hid hr3; clear ow3 hr3
    go_wp2_with fail
    go_ret3
    exact ⟨_, a2, c2, rfl, OW3.out.log, (RdStrs.of_owns HR3.out).below ((Below.refl _ w3).alloc (Nat.le_refl _) _)⟩
end Go.Proofs.Ytebeafpoblhlhaa
