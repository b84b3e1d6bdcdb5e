/- DERIVED. The reference's Decode; Same. -/
import Derived.Test.YtjcimajkjnjdpabGreatDoorSexpTake
import Derived.Test.YtjcimajkjnjdpabGreatDoorSexpList
namespace Go.Proofs.YtjcimajkjnjdpabGreatDoor
open Go.RowKit
set_option linter.unusedVariables false

set_option maxRecDepth 100000 in
set_option maxHeartbeats 4000000 in
theorem rdec_any (w : World) (S : ByteArray) (hSm : S.size ≤ 140737488351232) : Calls Tryz.prog 28 #[.string S] w (DecTo w (decT S.data.toList)) := by
  have hz : (w.alloc (.cells #[.bool false, .string ⟨#[]⟩, .slice none 0 0] 50)).heap.size = w.heap.size + 1 := by simp
  have hb1 : Below w.heap.size w (w.alloc (.cells #[.bool false, .string ⟨#[]⟩, .slice none 0 0] 50)) := (Below.refl _ w).alloc (Nat.le_refl _) _
  have hbx := heap_alloc_new w (.cells #[.bool false, .string ⟨#[]⟩, .slice none 0 0] 50)
  obtain ⟨w1, hw1⟩ : ∃ w1, w.alloc (.cells #[.bool false, .string ⟨#[]⟩, .slice none 0 0] 50) = w1 := ⟨_, rfl⟩
  rw [hw1] at hb1 hz hbx
  obtain ⟨b, hbe⟩ : ∃ b, w.heap.size = b := ⟨_, rfl⟩
  rw [hbe] at hbx hz
  have b0 := cell_of_heap hbx 0
  have b1 := cell_of_heap hbx 1
  have b2 := cell_of_heap hbx 2
  have bf := frozen_of_heap hbx
  obtain ⟨R, hR⟩ : ∃ R, R = decT S.data.toList := ⟨_, rfl⟩
  rw [← hR]
  have hSl : S.data.toList.length = S.size := by simp
  unfold decT at hR
  rw [hSl] at hR
  have hbad : ∀ W' (f : Int) v0 v1 v2, Below w.heap.size w W' → R = .error f → DecTo w R (.returned (.tuple #[.agg #[.bool false, .string ⟨#[]⟩, .slice none 0 0], .int .i64 f])) (((W'.setCell ⟨b, 0, none⟩ v0).setCell ⟨b, 1, none⟩ v1).setCell ⟨b, 2, none⟩ v2) := by
    intro W' f v0 v1 v2 hb he
    rw [he]
    exact ⟨rfl, ((hb.setCell (by simp; omega) _).setCell (by simp; omega) _).setCell (by simp; omega) _⟩
  have HBAD := Lib.hid hbad; have HB1 := Lib.hid hb1; have HZ := Lib.hid hz; have HBX := Lib.hid hbx
  clear hbad hb1 hz hbx
  by_cases hbig : 65536 < S.size
  · rw [if_pos hbig] at hR
    have HRE := Lib.hid hR
    clear hR hSl
    go_enter Tryz.func28, Tryz.ntmps28
    go_wp2_with fail
    refine bodyPost_ret (v := .tuple #[.agg #[.bool false, .string ⟨#[]⟩, .slice none 0 0], .int .i64 3]) (by simp [results, Tryz.results28, go_sem, b0, b1, b2]) rfl ?_
    exact HBAD.out _ _ _ _ _ HB1.out HRE.out
  · rw [if_neg hbig] at hR
    have hsml : S.size ≤ 65536 := by omega
    have hN := take_any 32 0 rfl w1 S hsml
    rw [show ((0 : Nat) : Int) = 0 from rfl] at hN
    clear hbig
    cases ht : takeT 32 S.data.toList with
    | error f =>
      have hf := takeT_errs _ _ _ ht
      rw [ht] at hR hN
      have hf1 : (f == 0) = false := by rcases hf with rfl | rfl <;> decide
      have hf2 : (f != 0) = true := by rcases hf with rfl | rfl <;> decide
      have HRE := Lib.hid (show R = .error f from hR); have HN := Lib.hid hN
      clear hR hN ht hf hSl
      go_enter Tryz.func28, Tryz.ntmps28
      go_wp2_with fail
      refine HN.out.mono ?_
      rintro e w3 ⟨rfl, hb3⟩
      have hb4 : Below w3.heap.size w3 (w3.alloc (.cells #[.bool false, .string ⟨#[]⟩, .slice none 0 0] 50)) := (Below.refl _ w3).alloc (Nat.le_refl _) _
      have hb34 := hb3.trans (hb4.mono hb3.size)
      have hbq : (w3.alloc (.cells #[.bool false, .string ⟨#[]⟩, .slice none 0 0] 50)).heap[b]? = _ := (hb34.block b (lt_of_heap HBX.out)).trans HBX.out
      have q0 := cell_of_heap hbq 0
      have q1 := cell_of_heap hbq 1
      have q2 := cell_of_heap hbq 2
      have qf := frozen_of_heap hbq
      have HB4 := Lib.hid (HB1.out.trans (hb34.mono HB1.out.size))
      clear hb3 hb4 hb34 hbq b0 b1 b2 bf
      go_wp2_with fail
      refine bodyPost_ret (v := .tuple #[.agg #[.bool false, .string ⟨#[]⟩, .slice none 0 0], .int .i64 f]) (by simp [results, Tryz.results28, go_sem, q0, q1, q2]) rfl ?_
      exact HBAD.out _ _ _ _ _ HB4.out HRE.out
    | ok q =>
      obtain ⟨t, r⟩ := q
      rw [ht] at hR hN
      obtain ⟨k, hk1, hk2, hk3⟩ := takeT_len rfl ht
      rw [hSl] at hk2
      obtain ⟨p, hp⟩ : ∃ p, p = S.size - r.length := ⟨_, rfl⟩
      have hN2 : Calls Tryz.prog 54 #[.string S, .int .i64 0] w1 (fun e w3 => ∃ l sx a n c G, e = .returned (.tuple #[.agg #[.bool l, .string sx, .slice a n c], .int .i64 (p : Int), .int .i64 0]) ∧ Below w1.heap.size w1 w3 ∧ Made w1 w3 0 G t (.bool l) (.string sx) (.slice a n c)) := by
        refine hN.mono ?_
        rintro e w3 ⟨l, sx, a, n, c, G, rfl, h2, h3⟩
        exact ⟨l, sx, a, n, c, G, by rw [hp], h2, h3⟩
      have HN := Lib.hid hN2
      cases hrl : r with
      | nil =>
        have hpd : ¬ (p < S.size) := by rw [hp, hrl]; simp
        rw [hrl] at hR
        have HRE := Lib.hid (show R = .ok t from hR)
        clear hR hN hN2 ht hSl hp hk1 hk2 hk3 hrl
        go_enter Tryz.func28, Tryz.ntmps28
        go_wp2_with fail
        refine HN.out.mono ?_
        rintro e w3 ⟨l, sx, a, n, c, G, rfl, hb3, hm⟩
        have hb4 : Below w3.heap.size w3 (w3.alloc (.cells #[.bool l, .string sx, .slice a n c] 50)) := (Below.refl _ w3).alloc (Nat.le_refl _) _
        have hkx := heap_alloc_new w3 (.cells #[.bool l, .string sx, .slice a n c] 50)
        obtain ⟨w4, hw4⟩ : ∃ w4, w3.alloc (.cells #[.bool l, .string sx, .slice a n c] 50) = w4 := ⟨_, rfl⟩
        rw [hw4] at hb4 hkx
        have m0 := cell_of_heap hkx 0
        have m1 := cell_of_heap hkx 1
        have m2 := cell_of_heap hkx 2
        have hb34 := hb3.trans (hb4.mono hb3.size)
        have hbq : w4.heap[b]? = _ := (hb34.block b (lt_of_heap HBX.out)).trans HBX.out
        have q0 := cell_of_heap hbq 0
        have q1 := cell_of_heap hbq 1
        have q2 := cell_of_heap hbq 2
        have qf := frozen_of_heap hbq
        have hfin : ∀ v0 v1 v2, DecTo w R (.returned (.tuple #[.agg #[.bool l, .string sx, .slice a n c], .int .i64 0])) (((w4.setCell ⟨b, 0, none⟩ v0).setCell ⟨b, 1, none⟩ v1).setCell ⟨b, 2, none⟩ v2) := by
          intro v0 v1 v2
          rw [HRE.out]
          have hy := HB1.out.trans (hb34.mono HB1.out.size)
          have hs := HZ.out
          refine ⟨_, _, _, G, rfl, ((hy.setCell (by simp; omega) _).setCell (by simp; omega) _).setCell (by simp; omega) _, (hm.keep (fun g hg hg2 => ?_) (by have := hb4.size; simpa [World.setCell] using this)).base HB1.out.size⟩
          rw [Below.heap_setCell _ _ _ _ (by simp; omega), Below.heap_setCell _ _ _ _ (by simp; omega), Below.heap_setCell _ _ _ _ (by simp; omega), hb4.block g hg2]
        have HFIN := Lib.hid hfin
        clear hb3 hb4 hb34 hbq hm hfin hkx b0 b1 b2 bf
        go_wp2_with fail
        refine bodyPost_ret (v := .tuple #[.agg #[.bool l, .string sx, .slice a n c], .int .i64 0]) (by simp [results, Tryz.results28, go_sem, q0, q1, q2]) rfl ?_
        exact HFIN.out _ _ _
      | cons x l' =>
        have hpd : p < S.size := by rw [hp, hrl]; simp; omega
        rw [hrl] at hR
        have HRE := Lib.hid (show R = .error 5 from hR)
        clear hR hN hN2 ht hSl hp hk1 hk2 hk3 hrl
        go_enter Tryz.func28, Tryz.ntmps28
        go_wp2_with fail
        refine HN.out.mono ?_
        rintro e w3 ⟨l, sx, a, n, c, G, rfl, hb3, hm⟩
        have hb4 : Below w3.heap.size w3 (w3.alloc (.cells #[.bool l, .string sx, .slice a n c] 50)) := (Below.refl _ w3).alloc (Nat.le_refl _) _
        obtain ⟨w4, hw4⟩ : ∃ w4, w3.alloc (.cells #[.bool l, .string sx, .slice a n c] 50) = w4 := ⟨_, rfl⟩
        rw [hw4] at hb4
        have hb34 := hb3.trans (hb4.mono hb3.size)
        have hbq : w4.heap[b]? = _ := (hb34.block b (lt_of_heap HBX.out)).trans HBX.out
        have q0 := cell_of_heap hbq 0
        have q1 := cell_of_heap hbq 1
        have q2 := cell_of_heap hbq 2
        have qf := frozen_of_heap hbq
        have HB4 := Lib.hid (HB1.out.trans (hb34.mono HB1.out.size))
        clear hb3 hb4 hb34 hbq hm b0 b1 b2 bf
        go_wp2_with fail
        refine bodyPost_ret (v := .tuple #[.agg #[.bool false, .string ⟨#[]⟩, .slice none 0 0], .int .i64 5]) (by simp [results, Tryz.results28, go_sem, q0, q1, q2]) rfl ?_
        exact HBAD.out _ _ _ _ _ HB4.out HRE.out
end Go.Proofs.YtjcimajkjnjdpabGreatDoor
