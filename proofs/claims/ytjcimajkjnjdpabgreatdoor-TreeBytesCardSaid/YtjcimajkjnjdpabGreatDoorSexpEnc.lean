/- DERIVED. Encode. -/
import Derived.Test.YtjcimajkjnjdpabGreatDoorSexpWrite
import Derived.BigQuiet
namespace Go.Proofs.YtjcimajkjnjdpabGreatDoor
open Go.RowKit
set_option linter.unusedVariables false
set_option maxRecDepth 100000

set_option maxHeartbeats 2000000 in
theorem enc_any (t : T) (w : World) (v0 v1 v2 : Value) (hn : NodeAt w t v0 v1 v2) (htab : Tab w) :
    Calls Tryz.prog 23 #[.agg #[v0, v1, v2]] w (fun e w' => e = .returned (.tuple #[strV (encT t).1, .int .i64 (encT t).2]) ∧ Below w.heap.size w w') := by
  obtain ⟨c0, c1, c2⟩ := box_cells w v0 v1 v2
  have hb1 : Below w.heap.size w (w.alloc (.cells #[v0, v1, v2] 50)) := (Below.refl _ w).alloc (Nat.le_refl _) _
  obtain ⟨w1, hw1⟩ : ∃ w1, w.alloc (.cells #[v0, v1, v2] 50) = w1 := ⟨_, rfl⟩
  rw [hw1] at hb1 c0 c1 c2
  have hs1 : w1.heap.size = w.heap.size + 1 := by rw [← hw1]; simp
  have hw2h := heap_alloc_new w1 (.cells #[.slice none 0 0, .int .i64 0] 82)
  have hb2 : Below w1.heap.size w1 (w1.alloc (.cells #[.slice none 0 0, .int .i64 0] 82)) := (Below.refl _ w1).alloc (Nat.le_refl _) _
  obtain ⟨w2, hw2⟩ : ∃ w2, w1.alloc (.cells #[.slice none 0 0, .int .i64 0] 82) = w2 := ⟨_, rfl⟩
  rw [hw2] at hw2h hb2
  rw [hs1] at hw2h
  have hwr : WrAt (w.heap.size + 1) (.slice none 0 0) [] 0 w2 := ⟨hw2h, World.ownsRow_nil _ _ _ _, by intro h; cases h⟩
  have hb02 : Below w.heap.size w w2 := hb1.trans (hb2.mono hb1.size)
  have hN := wnode_any (SizeOf.sizeOf t) t (Nat.le_refl _) w w2 (w.heap.size + 1) (.slice none 0 0) v0 v1 v2 [] 0 hn htab hb02 (by intro g hg; rcases List.mem_cons.1 hg with rfl | hg; exact Nat.le_succ _; cases hg) hwr (Nat.zero_le _) (by omega)
  have d0 := below_keeps hb2 _ _ c0
  have d1 := below_keeps hb2 _ _ c1
  have d2 := below_keeps hb2 _ _ c2
  have henc : ∀ w', NodeTo w2 (w.heap.size + 1) (.slice none 0 0) (putT 0 [] t) w' → ∃ (f : Int) (v' : Value) (b' : List UInt8), WrAt (w.heap.size + 1) v' b' f w' ∧ Below w.heap.size w w' ∧ ((f ≠ 0 ∧ encT t = ([], f)) ∨ (f = 0 ∧ encT t = (b', 0))) := by
    intro w' h
    unfold encT
    cases hr : putT 0 [] t with
    | error e =>
      rw [hr] at h
      obtain ⟨v', b', _, q2, q3, q4⟩ := h
      exact ⟨e, v', b', q2, hb02.trans (below_of_ch q3 (by intro g hg; rcases List.mem_cons.1 hg with rfl | hg; exact Nat.le_succ _; cases hg) hb02.size), .inl ⟨by rcases putT_err t _ _ _ hr with rfl | rfl | rfl <;> decide, rfl⟩⟩
    | ok c =>
      rw [hr] at h
      obtain ⟨v', b', rfl, q2, q3, q4⟩ := h
      exact ⟨0, v', b', q2, hb02.trans (below_of_ch q3 (by intro g hg; rcases List.mem_cons.1 hg with rfl | hg; exact Nat.le_succ _; cases hg) hb02.size), .inr ⟨rfl, rfl⟩⟩
  obtain ⟨q, hq⟩ : ∃ q, q = encT t := ⟨_, rfl⟩
  rw [← hq]
  have HN := Lib.hid hN; have HE := Lib.hid henc; have HQ := Lib.hid hq
  clear hN henc hq c0 c1 c2 hb1 hb2 hw2h hwr hb02 htab hn
  go_enter Tryz.func23, Tryz.ntmps23
  go_wp2_with fail
  refine HN.out.mono ?_
  rintro e w3 ⟨rfl, h3⟩
  obtain ⟨f, v', b', q1, q2, q3⟩ := HE.out w3 h3
  obtain ⟨m0, m1, mf⟩ := q1.cells
  have Q2 := Lib.hid q2
  have hcv := conv_rd (P := Tryz.prog) Tryz.underlying80 Tryz.underlying5 Tryz.underlying9 (Rd.of_owns q1.2.1)
  rcases q3 with ⟨hf, hqe⟩ | ⟨rfl, hqe⟩
  · rw [← HQ.out] at hqe
    subst hqe
    dsimp only
    clear q1 q2 h3 hcv d0 d1 d2 m0
    have hff : (f == 0) = false := by simpa using hf
    go_wp2
    go_region
    go_wp2
    go_ret2
    exact ⟨rfl, Q2.out.drew⟩
  · rw [← HQ.out] at hqe
    subst hqe
    dsimp only
    clear q1 q2 h3 d0 d1 d2
    go_wp2
    go_ret2
    exact ⟨rfl, Q2.out⟩
end Go.Proofs.YtjcimajkjnjdpabGreatDoor
