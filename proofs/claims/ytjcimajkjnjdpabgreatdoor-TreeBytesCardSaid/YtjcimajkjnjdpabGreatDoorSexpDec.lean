/- DERIVED. Decode. -/
import Derived.Test.YtjcimajkjnjdpabGreatDoorSexpRead
namespace Go.Proofs.YtjcimajkjnjdpabGreatDoor
open Go.RowKit
set_option linter.unusedVariables false

def DecTo (w : World) : Except Int T → Ending → World → Prop
  | .ok t, e, w' => ∃ v0 v1 v2 G, e = .returned (.tuple #[.agg #[v0, v1, v2], .int .i64 0]) ∧ Below w.heap.size w w' ∧ Made w w' 0 G t v0 v1 v2
  | .error f, e, w' => e = .returned (.tuple #[.agg #[.bool false, .string ⟨#[]⟩, .slice none 0 0], .int .i64 f]) ∧ Below w.heap.size w w'
theorem NodeG.form {G : Foot} {w : World} {t : T} {d : Nat} {v0 v1 v2 : Value} (h : NodeG G w d t v0 v1 v2) : ∃ l s a n c, v0 = .bool l ∧ v1 = .string s ∧ v2 = .slice a n c := by
  obtain ⟨h1, ⟨l, rfl⟩, s, rfl⟩ := h.list
  rcases h1 with rfl | ⟨b, n, c, rfl, _⟩ <;> exact ⟨_, _, _, _, _, rfl, rfl, rfl⟩
set_option maxRecDepth 100000 in
set_option maxHeartbeats 4000000 in
theorem dec_any (w : World) (S : ByteArray) (hSm : S.size ≤ 140737488351232) (htab : Tab w) : Calls Tryz.prog 26 #[.string S] w (DecTo w (decT S.data.toList)) := by
  have hz : (w.alloc (.cells #[.bool false, .string ⟨#[]⟩, .slice none 0 0] 50)).heap.size = w.heap.size + 1 := by simp
  have hb1 : Below w.heap.size w (w.alloc (.cells #[.bool false, .string ⟨#[]⟩, .slice none 0 0] 50)) := (Below.refl _ w).alloc (Nat.le_refl _) _
  have hbx := heap_alloc_new w (.cells #[.bool false, .string ⟨#[]⟩, .slice none 0 0] 50)
  obtain ⟨w1, hw1⟩ : ∃ w1, w.alloc (.cells #[.bool false, .string ⟨#[]⟩, .slice none 0 0] 50) = w1 := ⟨_, rfl⟩
  rw [hw1] at hb1 hz hbx
  obtain ⟨b, hbe⟩ : ∃ b, w.heap.size = b := ⟨_, rfl⟩
  rw [hbe] at hbx
  have b0 := cell_of_heap hbx 0
  have b1 := cell_of_heap hbx 1
  have b2 := cell_of_heap hbx 2
  have bf := frozen_of_heap hbx
  obtain ⟨R, hR⟩ : ∃ R, R = decT S.data.toList := ⟨_, rfl⟩
  rw [← hR]
  have hSl : S.data.toList.length = S.size := by simp
  unfold decT at hR
  rw [hSl] at hR
  by_cases hbig : 65536 < S.size
  · rw [if_pos hbig] at hR
    have hfin : ∀ v0 v1 v2, DecTo w R (.returned (.tuple #[.agg #[.bool false, .string ⟨#[]⟩, .slice none 0 0], .int .i64 3])) (((w1.setCell ⟨b, 0, none⟩ v0).setCell ⟨b, 1, none⟩ v1).setCell ⟨b, 2, none⟩ v2) := by
      intro v0 v1 v2
      rw [hR]
      exact ⟨rfl, ((hb1.setCell (by simp; omega) _).setCell (by simp; omega) _).setCell (by simp; omega) _⟩
    have HFIN := Lib.hid hfin
    clear hfin hR hSl hb1 hbx hz htab
    go_enter Tryz.func26, Tryz.ntmps26
    go_wp2_with fail
    refine bodyPost_ret (v := .tuple #[.agg #[.bool false, .string ⟨#[]⟩, .slice none 0 0], .int .i64 3]) (by simp [results, Tryz.results26, go_sem, b0, b1, b2]) rfl ?_
    exact HFIN.out _ _ _
  · rw [if_neg hbig] at hR
    obtain ⟨W, hWe⟩ : ∃ W, w1.heap.size = W := ⟨_, rfl⟩
    have hrx := heap_alloc_new w1 (.cells #[.string S, .int .i64 0, .int .i64 0] 88)
    rw [hWe] at hrx hz
    have hb2 : Below w1.heap.size w1 (w1.alloc (.cells #[.string S, .int .i64 0, .int .i64 0] 88)) := (Below.refl _ w1).alloc (Nat.le_refl _) _
    obtain ⟨w2, hw2⟩ : ∃ w2, w1.alloc (.cells #[.string S, .int .i64 0, .int .i64 0] 88) = w2 := ⟨_, rfl⟩
    rw [hw2] at hrx hb2
    have hb02 := hb1.trans (hb2.mono hb1.size)
    have hbx2 : w2.heap[b]? = some (.cells #[.bool false, .string ⟨#[]⟩, .slice none 0 0] 50 (0, 0)) := by rw [hb2.block b (by omega)]; exact hbx
    have hN := rnode_any 32 0 rfl w w2 W S 0 hrx (by omega) (Nat.zero_le _) htab hb02 (by omega)
    rw [List.drop_zero, show ((0 : Nat) : Int) = 0 from rfl] at hN
    have hsml : S.size ≤ 65536 := by omega
    have hne1 : ¬ (W = b) := by omega
    have hne2 : ¬ (b = W) := by omega
    have hbox : ∀ w3, Ch [W] w2 w3 → w3.heap[b]? = some (.cells #[.bool false, .string ⟨#[]⟩, .slice none 0 0] 50 (0, 0)) := by
      intro w3 hc
      rw [hc.block b (lt_of_heap hbx2) (by simp; exact hne2)]; exact hbx2
    have hbel : ∀ w3, Ch [W] w2 w3 → Below w.heap.size w w3 := fun w3 hc => hb02.trans (below_of_ch hc (by intro k hk; rw [show k = W from by simpa using hk]; omega) hb02.size)
    have hlt : b < w2.heap.size ∧ W < w2.heap.size := ⟨lt_of_heap hbx2, lt_of_heap hrx⟩
    have HBOX := Lib.hid hbox; have HBEL := Lib.hid hbel; have HLT := Lib.hid hlt; have HZ := Lib.hid hz
    cases ht : takeT 32 S.data.toList with
    | error f =>
      have hf := takeT_errs _ _ _ ht
      rw [ht] at hR hN
      have hf1 : (f == 0) = false := by rcases hf with rfl | rfl <;> decide
      have hf2 : (f != 0) = true := by rcases hf with rfl | rfl <;> decide
      have HR := Lib.hid (show R = .error f from hR); have HN := Lib.hid hN
      clear hR hN ht hf hSl hb1 hbx hz htab hbig hrx hb2 hb02 hbx2 hbox hbel hlt b0 b1 b2 bf
      go_enter Tryz.func26, Tryz.ntmps26
      go_wp2_with fail
      refine HN.out.mono ?_
      rintro e w3 ⟨rfl, ⟨p, hr⟩, hc⟩
      have hb4 : Below w3.heap.size w3 (w3.alloc (.cells #[.bool false, .string ⟨#[]⟩, .slice none 0 0] 50)) := (Below.refl _ w3).alloc (Nat.le_refl _) _
      have hbc := heap_alloc_new w3 (.cells #[.bool false, .string ⟨#[]⟩, .slice none 0 0] 50)
      obtain ⟨w4, hw4⟩ : ∃ w4, w3.alloc (.cells #[.bool false, .string ⟨#[]⟩, .slice none 0 0] 50) = w4 := ⟨_, rfl⟩
      rw [hw4] at hb4 hbc
      have e0 := cell_of_heap hbc 0
      have e1 := cell_of_heap hbc 1
      have e2 := cell_of_heap hbc 2
      obtain ⟨k0, k1, k2, kf⟩ := (hr.keep hb4).cells
      have hbq : w4.heap[b]? = _ := (hb4.block b (lt_of_heap (HBOX.out w3 hc))).trans (HBOX.out w3 hc)
      have q0 := cell_of_heap hbq 0
      have q1 := cell_of_heap hbq 1
      have q2 := cell_of_heap hbq 2
      have qf := frozen_of_heap hbq
      subst hw4
      have HL3 := Lib.hid ((HBEL.out w3 hc).trans (hb4.mono (HBEL.out w3 hc).size))
      clear hr hc hbq hb4 hbc
      have hfin : ∀ k v0 v1 v2, DecTo w R (.returned (.tuple #[.agg #[.bool false, .string ⟨#[]⟩, .slice none 0 0], .int .i64 f])) (((((w3.alloc (.cells #[.bool false, .string ⟨#[]⟩, .slice none 0 0] 50)).drewN k).setCell ⟨b, 0, none⟩ v0).setCell ⟨b, 1, none⟩ v1).setCell ⟨b, 2, none⟩ v2) := by
        intro k v0 v1 v2
        rw [HR.out]
        have hy := Below.drewN HL3.out k
        exact ⟨rfl, ((hy.setCell (by simp; omega) _).setCell (by simp; omega) _).setCell (by simp; omega) _⟩
      have HFIN := Lib.hid hfin; clear hfin
      go_wp2_with fail
      go_region
      go_wp2_with fail
      refine bodyPost_ret (v := .tuple #[.agg #[.bool false, .string ⟨#[]⟩, .slice none 0 0], .int .i64 f]) (by simp [results, Tryz.results26, go_sem, q0, q1, q2]) rfl ?_
      exact HFIN.out 1 _ _ _
    | ok q =>
      obtain ⟨t, r⟩ := q
      rw [ht] at hR hN
      obtain ⟨k, hk1, hk2, hk3⟩ := takeT_len rfl ht
      rw [hSl] at hk2
      obtain ⟨p, hp⟩ : ∃ p, p = S.size - r.length := ⟨_, rfl⟩
      have hN2 := hN
      cases hrl : r with
      | nil =>
        have hpS : p = S.size := by rw [hp, hrl]; rfl
        rw [hrl] at hR
        have HR := Lib.hid (show R = .ok t from hR); have HP := Lib.hid hp
        have hpd : ¬ (p < S.size) := by omega
        have HN := Lib.hid hN
        clear hR hN hN2 ht hSl hb1 hbx hz htab hbig hrx hb2 hb02 hbx2 hbox hbel hlt b0 b1 b2 bf hp hk1 hk2 hk3 hrl hpS
        go_enter Tryz.func26, Tryz.ntmps26
        go_wp2_with fail
        refine HN.out.mono ?_
        rintro e w3 ⟨v0, v1, v2, G, rfl, hr, hc, hm⟩
        rw [← HP.out] at hr
        obtain ⟨lf, sx, ax, nx, cx, rfl, rfl, rfl⟩ := hm.node.form
        have hb4 : Below w3.heap.size w3 (w3.alloc (.cells #[.bool lf, .string sx, .slice ax nx cx] 50)) := (Below.refl _ w3).alloc (Nat.le_refl _) _
        have hbc := heap_alloc_new w3 (.cells #[.bool lf, .string sx, .slice ax nx cx] 50)
        obtain ⟨w4, hw4⟩ : ∃ w4, w3.alloc (.cells #[.bool lf, .string sx, .slice ax nx cx] 50) = w4 := ⟨_, rfl⟩
        rw [hw4] at hb4 hbc
        have e0 := cell_of_heap hbc 0
        have e1 := cell_of_heap hbc 1
        have e2 := cell_of_heap hbc 2
        obtain ⟨k0, k1, k2, kf⟩ := (hr.keep hb4).cells
        have hbq : w4.heap[b]? = _ := (hb4.block b (lt_of_heap (HBOX.out w3 hc))).trans (HBOX.out w3 hc)
        have q0 := cell_of_heap hbq 0
        have q1 := cell_of_heap hbq 1
        have q2 := cell_of_heap hbq 2
        have qf := frozen_of_heap hbq
        have hfin : ∀ v0 v1 v2, DecTo w R (.returned (.tuple #[.agg #[.bool lf, .string sx, .slice ax nx cx], .int .i64 0])) (((w4.setCell ⟨b, 0, none⟩ v0).setCell ⟨b, 1, none⟩ v1).setCell ⟨b, 2, none⟩ v2) := by
          intro v0 v1 v2
          rw [HR.out]
          have hx := HBEL.out w3 hc
          have hy := hx.trans (hb4.mono hx.size)
          have hlt := HLT.out
          have hs := hc.size
          refine ⟨_, _, _, G, rfl, ((hy.setCell (by simp; omega) _).setCell (by simp; omega) _).setCell (by simp; omega) _, (hm.keep (fun g hg hg2 => ?_) (by have := hb4.size; simpa [World.setCell] using this)).base (by have := (HBEL.out w2 (Ch.refl _ _)).size; exact this)⟩
          rw [Below.heap_setCell _ _ _ _ (by simp; omega), Below.heap_setCell _ _ _ _ (by simp; omega), Below.heap_setCell _ _ _ _ (by simp; omega), hb4.block g hg2]
        have HFIN := Lib.hid hfin
        clear hr hc hbq hm hfin hb4 hbc
        go_wp2_with fail
        refine bodyPost_ret (v := .tuple #[.agg #[.bool lf, .string sx, .slice ax nx cx], .int .i64 0]) (by simp [results, Tryz.results26, go_sem, q0, q1, q2]) rfl ?_
        exact HFIN.out _ _ _
      | cons x l =>
        have hpS : p < S.size := by rw [hp, hrl]; simp; omega
        rw [hrl] at hR
        have HR := Lib.hid (show R = .error 5 from hR); have HP := Lib.hid hp
        have HN := Lib.hid hN
        clear hR hN hN2 ht hSl hb1 hbx hz htab hbig hrx hb2 hb02 hbx2 hbox hbel hlt b0 b1 b2 bf hp hk1 hk2 hk3 hrl
        go_enter Tryz.func26, Tryz.ntmps26
        go_wp2_with fail
        refine HN.out.mono ?_
        rintro e w3 ⟨v0, v1, v2, G, rfl, hr, hc, hm⟩
        rw [← HP.out] at hr
        obtain ⟨lf, sx, ax, nx, cx, rfl, rfl, rfl⟩ := hm.node.form
        have hb4 : Below w3.heap.size w3 (w3.alloc (.cells #[.bool lf, .string sx, .slice ax nx cx] 50)) := (Below.refl _ w3).alloc (Nat.le_refl _) _
        have hbc := heap_alloc_new w3 (.cells #[.bool lf, .string sx, .slice ax nx cx] 50)
        obtain ⟨w4, hw4⟩ : ∃ w4, w3.alloc (.cells #[.bool lf, .string sx, .slice ax nx cx] 50) = w4 := ⟨_, rfl⟩
        rw [hw4] at hb4 hbc
        have e0 := cell_of_heap hbc 0
        have e1 := cell_of_heap hbc 1
        have e2 := cell_of_heap hbc 2
        obtain ⟨k0, k1, k2, kf⟩ := (hr.keep hb4).cells
        have hbq : w4.heap[b]? = _ := (hb4.block b (lt_of_heap (HBOX.out w3 hc))).trans (HBOX.out w3 hc)
        have q0 := cell_of_heap hbq 0
        have q1 := cell_of_heap hbq 1
        have q2 := cell_of_heap hbq 2
        have qf := frozen_of_heap hbq
        have hfin : ∀ k v0 v1 v2, DecTo w R (.returned (.tuple #[.agg #[.bool false, .string ⟨#[]⟩, .slice none 0 0], .int .i64 5])) (((((w4.setCell ⟨W, 2, none⟩ (.int .i64 5)).drewN k).setCell ⟨b, 0, none⟩ v0).setCell ⟨b, 1, none⟩ v1).setCell ⟨b, 2, none⟩ v2) := by
          intro k v0 v1 v2
          rw [HR.out]
          have hx := HBEL.out w3 hc
          have hz := HZ.out
          have hy := Below.drewN ((hx.trans (hb4.mono hx.size)).setCell (p := ⟨W, 2, none⟩) (by simp; omega) (.int .i64 5)) k
          exact ⟨rfl, ((hy.setCell (by simp; omega) _).setCell (by simp; omega) _).setCell (by simp; omega) _⟩
        have HFIN := Lib.hid hfin
        clear hr hc hbq hm hfin hb4 hbc
        go_wp2_with fail
        go_region
        go_wp2_with fail
        refine bodyPost_ret (v := .tuple #[.agg #[.bool false, .string ⟨#[]⟩, .slice none 0 0], .int .i64 5]) (by simp [results, Tryz.results26, go_sem, q0, q1, q2]) rfl ?_
        exact HFIN.out 1 _ _ _
end Go.Proofs.YtjcimajkjnjdpabGreatDoor
