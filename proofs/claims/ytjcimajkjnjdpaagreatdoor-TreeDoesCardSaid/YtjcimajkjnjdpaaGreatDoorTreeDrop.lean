/- DERIVED. tree.Drop, walked. -/
import Derived.Test.YtjcimajkjnjdpaaGreatDoorTreePut
namespace Go.Proofs.YtjcimajkjnjdpaaGreatDoor
open Go.RowKit
set_option linter.unusedVariables false

set_option maxRecDepth 100000 in
set_option maxHeartbeats 16000000 in
theorem drop_tree (w : World) (a : Option Addr) (c : Nat) (ts : List Pr) (D : ByteArray) (hr : RdFl w a ts) (hs : Sl a ts.length c) (hl : ts.length ≤ 1000000) (hsz : ∀ p ∈ ts, p.1.length ≤ 400000) (hD : D.size ≤ 400000) :
    Calls Tryz.prog 21 #[.agg #[.slice a ts.length c], .string D] w (MakeTo w (dropT ts D.data.toList)) := by
  obtain ⟨w1, hw1, hb1, hx1, hz1, hz2⟩ := new_cell w (.slice a ts.length c) 26
  obtain ⟨w2, hw2, hb2, hx2, hz3, hz4⟩ := new_cell w1 (.string D) 9
  obtain ⟨w3, hw3, hb3, hx3, hz5, hz6⟩ := new_cell w2 (.slice none 0 0) 26
  obtain ⟨n, hnn⟩ : ∃ n, n = ts.length := ⟨_, rfl⟩
  obtain ⟨b1, hbe1⟩ : ∃ b, w.heap.size = b := ⟨_, rfl⟩
  obtain ⟨b2, hbe2⟩ : ∃ b, w1.heap.size = b := ⟨_, rfl⟩
  obtain ⟨b, hbe⟩ : ∃ b, w2.heap.size = b := ⟨_, rfl⟩
  have hb12 := hb1.trans (hb2.mono hb1.size)
  have hb13 := hb12.trans (hb3.mono hb12.size)
  have hy1 := (hb3.block _ (by omega)).trans ((hb2.block _ (by omega)).trans hx1)
  have hy2 := (hb3.block _ (by omega)).trans hx2
  have hG1 := fun W (h : Below w3.heap.size w3 W) => tgood_any W a c ts ((hr.below hb13).below h) hs hl hsz
  have hC1 := fun W (h : Below w3.heap.size w3 W) => clone_any W a c ts ((hr.below hb13).below h) hs hl
  have hout : ∀ x W, dropT ts D.data.toList = (x, []) → Below w3.heap.size w3 W → ∀ v, MakeTo w (dropT ts D.data.toList) (.returned (.tuple #[.agg #[.slice none 0 0], .int .i64 x])) (W.setCell ⟨b, 0, none⟩ v) := by
    intro x W hx hW v
    rw [hx]
    exact makeTo_err w _ x ((hb13.trans (hW.mono hb13.size)).setCell (p := ⟨b, 0, none⟩) (by show w.heap.size ≤ b; omega) v)
  rw [hbe1] at hy1; rw [hbe2] at hy2; rw [hbe] at hx3
  have hsize : b1 < w3.heap.size ∧ b2 < w3.heap.size ∧ b < w3.heap.size ∧ w.heap.size ≤ w3.heap.size ∧ w.heap.size ≤ b := by omega
  have hkeep : ∀ W, Below w3.heap.size w3 W → W.heap[b1]? = some (.cells #[.slice a n c] 26 (0, 0)) ∧ W.heap[b2]? = some (.cells #[.string D] 9 (0, 0)) ∧ W.heap[b]? = some (.cells #[.slice none 0 0] 26 (0, 0)) := fun W h => by
    rw [hnn]
    exact ⟨(h.block _ hsize.1).trans hy1, (h.block _ hsize.2.1).trans hy2, (h.block _ hsize.2.2.1).trans hx3⟩
  obtain ⟨X, hX⟩ : ∃ X, X = dropT ts D.data.toList := ⟨_, rfl⟩
  rw [← hX] at hout ⊢
  unfold CloneTo at hC1
  rw [← hnn] at hG1 hC1 hw1 hl ⊢
  have k1 := cell_of_heap (hkeep w3 (Below.refl _ _)).1 0
  have HR := Lib.hid (hr.below hb13); have HS := Lib.hid hs
  have HN := Lib.hid hnn; have HB := Lib.hid hb13; have HX := Lib.hid hX; have HOUT := Lib.hid hout; have HKEEP := Lib.hid hkeep; have HSIZE := Lib.hid hsize
  have HSZ := Lib.hid hsz; have HC := Lib.hid hC1
  have hG := hG1 w3 (Below.refl _ _)
  clear hr hs hnn hb1 hb2 hb3 hb12 hb13 hX hout hkeep hsize hx1 hx2 hx3 hy1 hy2 hz1 hz2 hz3 hz4 hz5 hz6 hsz hC1 hG1
  cases hg1 : goodT ts
  · have HE := Lib.hid (show dropT ts D.data.toList = (1, []) by unfold dropT; rw [if_neg (by rw [hg1]; simp)])
    rw [hg1] at hG
    have HG := Lib.hid hG
    clear hG hg1
    go_enter Tryz.func21, Tryz.ntmps21
    go_wp2_with fail
    refine HG.out.mono ?_
    rintro e w4 ⟨rfl, h4⟩
    have HB4 := Lib.hid h4
    obtain ⟨_, _, hq⟩ := HKEEP.out w4 h4
    have q0 := cell_of_heap hq 0
    have qf := frozen_of_heap hq
    clear h4 hq k1
    go_wp2_with fail
    refine bodyPost_ret (v := .tuple #[.agg #[.slice none 0 0], .int .i64 1]) (by simp [results, Tryz.results21, go_sem, q0]) rfl ?_
    exact HOUT.out _ _ (HX.out.trans HE.out) HB4.out _
  · have hfl := goodT_files hg1
    rw [hg1] at hG
    have HG := Lib.hid hG
    have HGG := Lib.hid hg1
    have hn32 : n ≤ 32 := by rw [HN.out]; exact hfl.1
    clear hG hfl hg1
    go_enter Tryz.func21, Tryz.ntmps21
    go_wp2_with fail
    refine HG.out.mono ?_
    rintro e w4 ⟨rfl, h4⟩
    have HB4 := Lib.hid h4
    have q1 := cell_of_heap (HKEEP.out w4 h4).1 0
    clear h4 k1
    go_wp2_with fail
    refine (HC.out w4 HB4.out).mono ?_
    rintro e w5 ⟨a5, c5, rfl, hown5, h5, hc5⟩
    have HB5 := Lib.hid (HB4.out.trans (h5.mono HB4.out.size))
    have hDs : strV D.data.toList = .string D := by unfold strV; cases D; simp
    have hD := del_any 48 (.pointer (some ⟨b2, 0, none⟩)) (dropB D.data.toList) w4.heap.size a5 c5 ts w5 Tryz.call48 hown5 h5.size (by rw [← HN.out]; exact hl) (fun g W hg hW p hp => drop1_any p D.data.toList b2 W (by
      have z2 := HSIZE.out.2.1
      have z4 := HB4.out.size
      rw [hDs]
      exact cell_of_heap ((hW.block b2 (by have := h5.size; omega) (by simp; omega)).trans (HKEEP.out w5 HB5.out).2.1) 0) (HSZ.out p hp) (by simpa using hD))
    have hrl : (ts.filter fun p => !dropB D.data.toList p).length ≤ n := by rw [HN.out]; exact List.length_filter_le _ _
    unfold DelTo at hD
    rw [← HN.out] at hD
    obtain ⟨rs, hrs⟩ : ∃ rs, rs = (ts.filter fun p => !dropB D.data.toList p) := ⟨_, rfl⟩
    rw [← hrs] at hD hrl
    obtain ⟨m, hmm⟩ : ∃ m, m = rs.length := ⟨_, rfl⟩
    rw [← hmm] at hD hrl
    have HD := Lib.hid hD; have HM := Lib.hid hmm; have HRS := Lib.hid hrs; have H45 := Lib.hid h5
    clear hown5 h5 hD hmm hrs q1 hc5
    go_wp2_with fail
    refine HD.out.mono ?_
    rintro e w6 ⟨rfl, hown6, h6⟩
    have H46 := Lib.hid (H45.out.trans h6)
    have HB6 := Lib.hid (HB4.out.trans (H46.out.mono HB4.out.size))
    have q2 := cell_of_heap (HKEEP.out w6 HB6.out).1 0
    have hqq := (HKEEP.out w6 HB6.out).2.2
    have q0 := cell_of_heap hqq 0
    have qf := frozen_of_heap hqq
    have HROW := Lib.hid (owns_rowAt hown6)
    clear h6 hown6 hqq
    by_cases hmn : m = n
    · subst hmn
      have HE := Lib.hid (show dropT ts D.data.toList = (14, []) by unfold dropT; rw [if_pos HGG.out, ← HRS.out, if_pos (by rw [← HM.out, ← HN.out])])
      go_wp2_with fail
      refine bodyPost_ret (v := .tuple #[.agg #[.slice none 0 0], .int .i64 14]) (by simp [results, Tryz.results21, go_sem, q0]) rfl ?_
      exact HOUT.out _ _ (HX.out.trans HE.out) HB6.out _
    · have hne : ((m : Int) == (n : Int)) = false := beq_eq_false_iff_ne.2 (by omega)
      have hE : X = (0, rs) := by rw [HX.out]; unfold dropT; rw [if_pos HGG.out, ← HRS.out, if_neg (by rw [← HM.out, ← HN.out]; exact hmn)]
      have hfin : ∀ v, RowAt (w6.setCell ⟨b, 0, none⟩ v) w.heap.size a5 c5 rs ∧ Below w.heap.size w (w6.setCell ⟨b, 0, none⟩ v) := by
        intro v
        obtain ⟨z1, z2, z3, z4, z5⟩ := HSIZE.out
        have z6 := HB4.out.size
        exact ⟨(HROW.out.keep (fun g hg _ => Below.heap_setCell _ _ _ _ (by simp; omega))).base (by omega), (HB.out.trans (HB6.out.mono z4)).setCell (p := ⟨b, 0, none⟩) z5 v⟩
      have HFIN := Lib.hid hfin; have HXE := Lib.hid hE
      clear hfin hE hmn
      go_wp2_with fail
      refine bodyPost_ret (v := .tuple #[.agg #[.slice a5 m c5], .int .i64 0]) (by simp [results, Tryz.results21, go_sem, q0]) rfl ?_
      rw [HXE.out]
      exact ⟨a5, c5, by rw [show m = rs.length from HM.out], (HFIN.out _).1, (HFIN.out _).2⟩
end Go.Proofs.YtjcimajkjnjdpaaGreatDoor
