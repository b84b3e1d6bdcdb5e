/- DERIVED. The reference's Good, walked. -/
import Derived.Test.YtjcimajkjnjdpabGreatDoorTreeRefMake
namespace Go.Proofs.YtjcimajkjnjdpabGreatDoor
open Go.RowKit
set_option linter.unusedVariables false

set_option maxRecDepth 100000 in
set_option maxHeartbeats 4000000 in
theorem rtgood_any (w : World) (a : Option Addr) (c : Nat) (ps : List Pr) (hr : RdFl w a ps) (hl : ps.length ≤ 1000000) (hsz : ∀ p ∈ ps, p.1.length ≤ 400000) :
    Calls Tryz.prog 15 #[.agg #[.slice a ps.length c]] w (fun e w' => e = .returned (.bool (goodT ps)) ∧ Below w.heap.size w w') := by
  obtain ⟨w1, hw1, hb1, hx1, hz1, hz2⟩ := new_cell w (.slice a ps.length c) 24
  have hM := rmake_any w1 a c ps (hr.below hb1) hl hsz
  have hle := makeT_le ps
  cases hmk : makeT ps with
  | mk x qs =>
  rw [hmk] at hM hle
  rw [goodT_of hmk]
  unfold MakeTo at hM
  dsimp only at hM hle
  obtain ⟨n, hnn⟩ : ∃ n, n = ps.length := ⟨_, rfl⟩
  rw [← hnn] at hM hx1 hw1 hle hl ⊢
  have k0 := cell_of_heap hx1 0
  have HX := Lib.hid hx1
  have HM := Lib.hid hM; have HB1 := Lib.hid hb1; have HR := Lib.hid hr; have HN := Lib.hid hnn
  obtain ⟨m, hmm⟩ : ∃ m, m = qs.length := ⟨_, rfl⟩
  have HMM := Lib.hid hmm
  have hm2 : m ≤ n := by omega
  by_cases h0 : x = 0
  · subst h0
    rw [decide_eq_true (p := (0 : Int) = 0) rfl, Bool.true_and]
    obtain ⟨R, hR⟩ : ∃ R, R = decide (ps = qs) := ⟨_, rfl⟩
    rw [show decide (qs = ps) = decide (ps = qs) from by rw [decide_eq_decide]; exact eq_comm]
    rw [← hR]
    have HRR := Lib.hid hR
    clear hR hM hb1 hx1 hz1 hz2 hr hnn hmm hsz hmk hle
    go_enter Tryz.func15, Tryz.ntmps15
    go_wp2_with fail
    refine HM.out.mono ?_
    rintro e w2 ⟨a1, c1, rfl, hrow, hb2⟩
    rw [← HMM.out]
    obtain ⟨w3, hw3, hb3, hx3, hz5, hz6⟩ := new_cell w2 (.slice a1 m c1) 24
    have q0 := cell_of_heap hx3 0
    have HB3 := Lib.hid ((HB1.out.trans (hb2.mono HB1.out.size)).trans (hb3.mono (HB1.out.trans (hb2.mono HB1.out.size)).size))
    have k2 := cell_of_heap ((hb3.block _ (by have := lt_of_heap HX.out; have := hb2.size; omega)).trans ((hb2.block _ (lt_of_heap HX.out)).trans HX.out)) 0
    have hE := same_any w3 a a1 c c1 ps qs (HR.out.below HB3.out) (hrow.below hb3).rd (by rw [← HN.out]; omega) (by rw [← HMM.out]; omega)
    rw [← HMM.out, ← HN.out, ← HRR.out] at hE
    have HE := Lib.hid hE
    clear hrow hb2 hb3 hx3 hz5 hz6 hE k0
    go_wp2_with fail
    refine HE.out.mono ?_
    rintro e w4 ⟨rfl, h4⟩
    have HB4 := Lib.hid (HB3.out.trans (h4.mono HB3.out.size))
    clear h4
    go_wp2_with fail
    go_ret
    exact ⟨rfl, HB4.out⟩
  · have hx1' : (x == 0) = false := beq_eq_false_iff_ne.2 h0
    rw [decide_eq_false h0, Bool.false_and]
    clear hM hb1 hx1 hz1 hz2 hr hnn hmm hsz hmk hle
    go_enter Tryz.func15, Tryz.ntmps15
    go_wp2_with fail
    refine HM.out.mono ?_
    rintro e w2 ⟨a1, c1, rfl, hrow, hb2⟩
    rw [← HMM.out]
    have HB2 := Lib.hid ((HB1.out.trans (hb2.mono HB1.out.size)).alloc (show w.heap.size ≤ w2.heap.size from (HB1.out.trans (hb2.mono HB1.out.size)).size) (.cells #[.slice a1 m c1] 24))
    clear hrow hb2 k0
    go_wp2_with fail
    go_ret
    exact ⟨rfl, HB2.out⟩
end Go.Proofs.YtjcimajkjnjdpabGreatDoor
