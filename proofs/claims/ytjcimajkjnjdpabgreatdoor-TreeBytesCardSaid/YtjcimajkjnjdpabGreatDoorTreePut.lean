/- DERIVED. tree.Put, walked. -/
import Derived.Test.YtjcimajkjnjdpabGreatDoorTreeDel
import Derived.Test.YtjcimajkjnjdpabGreatDoorTreeCut
namespace Go.Proofs.YtjcimajkjnjdpabGreatDoor
open Go.RowKit
set_option linter.unusedVariables false

/-- What Put answers. -/
def putT2 (t : List Pr) (f : Pr) : Int × List Pr := if goodT t = true then makeT (t.filter (fun g => g.1 != f.1) ++ [f]) else (1, [])
theorem eq_bytes (P Q : ByteArray) : (P.toList == Q.toList) = decide (P.data.toList = Q.data.toList) := by
  rw [Lib.toList_data, Lib.toList_data]
  exact Bool.eq_iff_iff.2 (by simp)
set_option maxRecDepth 100000 in
set_option maxHeartbeats 1000000 in
theorem put1_any (g : Pr) (f : List UInt8) (B : Nat) (w : World) (hc : w.cell? ⟨B, 0, none⟩ = some (strV f)) :
    Calls Tryz.prog 32 #[.agg #[strV g.1, strV g.2], .pointer (some ⟨B, 0, none⟩)] w (fun e w' => e = .returned (.bool (decide (g.1 = f))) ∧ Below w.heap.size w w') := by
  have hB := cell_lt hc
  unfold strV at hc ⊢
  obtain ⟨A, hA⟩ : ∃ A : ByteArray, A = ⟨g.1.toArray⟩ := ⟨_, rfl⟩
  obtain ⟨A2, hA2⟩ : ∃ A : ByteArray, A = ⟨g.2.toArray⟩ := ⟨_, rfl⟩
  obtain ⟨F, hF⟩ : ∃ A : ByteArray, A = ⟨f.toArray⟩ := ⟨_, rfl⟩
  obtain ⟨R, hR⟩ : ∃ R, R = decide (g.1 = f) := ⟨_, rfl⟩
  have he : (A.toList == F.toList) = R := by rw [eq_bytes, hA, hF, hR]
  rw [← hF] at hc
  rw [← hA, ← hA2, ← hR]
  have HB := Lib.hid ((Below.refl w.heap.size w).alloc (Nat.le_refl _) (.cells #[.string A, .string A2] 35))
  have c0 : (w.alloc (.cells #[.string A, .string A2] 35)).cell? ⟨B, 0, none⟩ = some (.string F) := below_keeps HB.out _ _ hc
  clear hA hA2 hF hR hc
  go_enter Tryz.func32, Tryz.ntmps32
  go_wp2
  go_ret
  exact ⟨rfl, HB.out⟩
theorem below_grown {w w' w'' : World} {v : Value} (h : Below w.heap.size w w') (hg : w'.grownBy w'' v.ownBlock) (hv : ∀ g, v.ownBlock = some g → w.heap.size ≤ g) : Below w.heap.size w w'' :=
  ⟨hg.os.trans h.os, hg.tape.trans h.tape, hg.output.trans h.output, Nat.le_trans h.size hg.size, fun k hk => (hg.block k (Nat.lt_of_lt_of_le hk h.size) (fun e => by have := hv k e.symm; omega)).trans (h.block k hk)⟩
set_option maxRecDepth 100000 in
set_option maxHeartbeats 16000000 in
theorem put_tree (w : World) (a : Option Addr) (c : Nat) (ts : List Pr) (f : Pr) (hr : RdFl w a ts) (hs : Sl a ts.length c) (hl : ts.length ≤ 1000000) (hsz : ∀ p ∈ ts, p.1.length ≤ 400000) (hf : f.1.length ≤ 400000) :
    Calls Tryz.prog 12 #[.agg #[.slice a ts.length c], .agg #[strV f.1, strV f.2]] w (MakeTo w (putT2 ts f)) := by
  obtain ⟨w1, hw1, hb1, hx1, hz1, hz2⟩ := new_cell w (.slice a ts.length c) 24
  obtain ⟨w2, hw2, hb2, hx2, hz3, hz4⟩ := new_two w1 (strV f.1) (strV f.2) 35
  obtain ⟨w3, hw3, hb3, hx3, hz5, hz6⟩ := new_cell w2 (.slice none 0 0) 24
  obtain ⟨n, hnn⟩ : ∃ n, n = ts.length := ⟨_, rfl⟩
  obtain ⟨b1, hbe1⟩ : ∃ b, w.heap.size = b := ⟨_, rfl⟩
  obtain ⟨b2, hbe2⟩ : ∃ b, w1.heap.size = b := ⟨_, rfl⟩
  obtain ⟨b, hbe⟩ : ∃ b, w2.heap.size = b := ⟨_, rfl⟩
  have hb12 := hb1.trans (hb2.mono hb1.size)
  have hb13 := hb12.trans (hb3.mono hb12.size)
  have hy1 := (hb3.block _ (by omega)).trans ((hb2.block _ (by omega)).trans hx1)
  have hy2 := (hb3.block _ (by omega)).trans hx2
  have hG1 := fun W (h : Below w3.heap.size w3 W) => tgood_any W a c ts ((hr.below hb13).below h) hs hl hsz
  have hC1 := fun W (h : Below w3.heap.size w3 W) => clone_any W a c ts ((hr.below hb13).below h) hs hl
  have hout : ∀ x W, putT2 ts f = (x, []) → Below w3.heap.size w3 W → ∀ v, MakeTo w (putT2 ts f) (.returned (.tuple #[.agg #[.slice none 0 0], .int .i64 x])) (W.setCell ⟨b, 0, none⟩ v) := by
    intro x W hx hW v
    rw [hx]
    exact makeTo_err w _ x ((hb13.trans (hW.mono hb13.size)).setCell (p := ⟨b, 0, none⟩) (by show w.heap.size ≤ b; omega) v)
  rw [hbe1] at hy1; rw [hbe2] at hy2; rw [hbe] at hx3
  have hsize : b1 < w3.heap.size ∧ b2 < w3.heap.size ∧ b < w3.heap.size ∧ w.heap.size ≤ w3.heap.size ∧ w.heap.size ≤ b := by omega
  have hkeep : ∀ W, Below w3.heap.size w3 W → W.heap[b1]? = some (.cells #[.slice a n c] 24 (0, 0)) ∧ W.heap[b2]? = some (.cells #[strV f.1, strV f.2] 35 (0, 0)) ∧ W.heap[b]? = some (.cells #[.slice none 0 0] 24 (0, 0)) := fun W h => by
    rw [hnn]
    exact ⟨(h.block _ hsize.1).trans hy1, (h.block _ hsize.2.1).trans hy2, (h.block _ hsize.2.2.1).trans hx3⟩
  obtain ⟨X, hX⟩ : ∃ X, X = putT2 ts f := ⟨_, rfl⟩
  rw [← hX] at hout ⊢
  unfold CloneTo at hC1
  rw [← hnn] at hG1 hC1 hw1 hl ⊢
  obtain ⟨S1, hS1⟩ : ∃ S : ByteArray, S = ⟨f.1.toArray⟩ := ⟨_, rfl⟩
  obtain ⟨S2, hS2⟩ : ∃ S : ByteArray, S = ⟨f.2.toArray⟩ := ⟨_, rfl⟩
  have hsv : strV f.1 = .string S1 ∧ strV f.2 = .string S2 := ⟨by rw [hS1]; rfl, by rw [hS2]; rfl⟩
  rw [hsv.1, hsv.2] at hw2 ⊢
  have k1 := cell_of_heap (hkeep w3 (Below.refl _ _)).1 0
  have HR := Lib.hid (hr.below hb13); have HS := Lib.hid hs; have HS1 := Lib.hid hS1; have HS2 := Lib.hid hS2; have HSV := Lib.hid hsv
  have HN := Lib.hid hnn; have HB := Lib.hid hb13; have HX := Lib.hid hX; have HOUT := Lib.hid hout; have HKEEP := Lib.hid hkeep; have HSIZE := Lib.hid hsize
  have HSZ := Lib.hid hsz; have HC := Lib.hid hC1
  have hG := hG1 w3 (Below.refl _ _)
  clear hr hs hnn hb1 hb2 hb3 hb12 hb13 hX hout hkeep hsize hx1 hx2 hx3 hy1 hy2 hz1 hz2 hz3 hz4 hz5 hz6 hS1 hS2 hsv hsz hC1 hG1
  cases hg1 : goodT ts
  · have HE := Lib.hid (show putT2 ts f = (1, []) by unfold putT2; rw [if_neg (by rw [hg1]; simp)])
    rw [hg1] at hG
    have HG := Lib.hid hG
    clear hG hg1
    go_enter Tryz.func12, Tryz.ntmps12
    go_wp2_with fail
    refine HG.out.mono ?_
    rintro e w4 ⟨rfl, h4⟩
    have HB4 := Lib.hid h4
    obtain ⟨_, _, hq⟩ := HKEEP.out w4 h4
    have q0 := cell_of_heap hq 0
    have qf := frozen_of_heap hq
    clear h4 hq k1
    go_wp2_with fail
    refine bodyPost_ret (v := .tuple #[.agg #[.slice none 0 0], .int .i64 1]) (by simp [results, Tryz.results12, go_sem, q0]) rfl ?_
    exact HOUT.out _ _ (HX.out.trans HE.out) HB4.out _
  · have hfl := goodT_files hg1
    rw [hg1] at hG
    have HG := Lib.hid hG
    have HGG := Lib.hid hg1
    have hn32 : n ≤ 32 := by rw [HN.out]; exact hfl.1
    obtain ⟨i0, hi, hzz0, hzz1, hzz2⟩ := info_three infoFile
    have HI := Lib.hid (And.intro hi (And.intro hzz0 (And.intro hzz1 hzz2)))
    clear hG hfl hg1 hi hzz0 hzz1 hzz2
    go_enter Tryz.func12, Tryz.ntmps12
    go_wp2_with fail
    refine HG.out.mono ?_
    rintro e w4 ⟨rfl, h4⟩
    have HB4 := Lib.hid h4
    have q1 := cell_of_heap (HKEEP.out w4 h4).1 0
    clear h4 k1
    go_wp2_with fail
    refine (HC.out w4 HB4.out).mono ?_
    rintro e w5 ⟨a5, c5, rfl, hown5, h5, hc5⟩
    have HB5 := Lib.hid (HB4.out.trans (h5.mono HB4.out.size))
    have hD := del_any 32 (.pointer (some ⟨b2, 0, none⟩)) (fun g => decide (g.1 = f.1)) w4.heap.size a5 c5 ts w5 Tryz.call32 hown5 h5.size (by rw [← HN.out]; exact hl) (fun g W hg hW p hp => put1_any p f.1 b2 W (by
      have z2 := HSIZE.out.2.1
      have z4 := HB4.out.size
      exact cell_of_heap ((hW.block b2 (by have := h5.size; omega) (by simp; omega)).trans (HKEEP.out w5 HB5.out).2.1) 0))
    have hrl : (ts.filter fun p => !decide (p.1 = f.1)).length ≤ n := by rw [HN.out]; exact List.length_filter_le _ _
    unfold DelTo at hD
    rw [← HN.out] at hD
    obtain ⟨rs, hrs⟩ : ∃ rs, rs = (ts.filter fun p => !decide (p.1 = f.1)) := ⟨_, rfl⟩
    rw [← hrs] at hD hrl
    obtain ⟨m, hmm⟩ : ∃ m, m = rs.length := ⟨_, rfl⟩
    rw [← hmm] at hD hrl
    have HD := Lib.hid hD; have HM := Lib.hid hmm; have HRS := Lib.hid hrs; have H45 := Lib.hid h5
    clear hown5 h5 hD hmm hrs q1 hc5
    go_wp2_with fail
    refine HD.out.mono ?_
    rintro e w6 ⟨rfl, hown6, h6⟩
    have H46 := Lib.hid (H45.out.trans h6)
    have HB6 := Lib.hid (HB4.out.trans (H46.out.mono HB4.out.size))
    have hown6' : w6.ownsRow w4.heap.size 35 2 (.slice a5 m c5) m (pairsV rs) := by rw [HM.out]; exact hown6
    obtain ⟨w7, hw7, hb7, hx7, _, _⟩ := new_two w6 (.string S1) (.string S2) 35
    have HSRC := Lib.hid (pr_src hx7 rfl rfl)
    have HO7 := Lib.hid (ownsRow_keep hown6' (fun g hg => hb7.block g (owns_lt hown6' g hg)))
    have HB7 := Lib.hid (HB6.out.trans (hb7.mono HB6.out.size))
    have H47 := Lib.hid (H46.out.trans (hb7.mono H46.out.size))
    have kk := (HKEEP.out w6 HB6.out).2.1
    rw [HSV.out.1, HSV.out.2] at kk
    have f0 := cell_of_heap kk 0
    have f1 := cell_of_heap kk 1
    have HZ7 := Lib.hid (Nat.le_trans H46.out.size hb7.size)
    clear h6 hown6 hown6' hx7 hb7 kk
    go_wp2_with (first | (at_builtin; refine wpList_append_srcs rfl (.tmp 16) (.tmp 18) 22 22 rfl w4.heap.size 35 i0 _ 2 32 Tryz.underlying22 HI.out.1 HI.out.2.1 HI.out.2.2.1 HI.out.2.2.2 rfl (by decide) _ rfl m _ HO7.out _ rfl _ _ HSRC.out (by unfold maxLen; omega) (by omega) HZ7.out ?_; intro a' c' w9 hown9 hgrow _ hblk; have HNEXT := Lib.hid hown9; have HGROW := Lib.hid hgrow; clear hown9 hgrow hblk) | fail)
    have hrow9 := pair_snoc (g := f) HNEXT.out HS1.out HS2.out
    have hb9 := below_grown HB7.out HGROW.out (fun g hg => by have := owns_ge HO7.out g hg; have := HB4.out.size; omega)
    obtain ⟨L, hL⟩ : ∃ L, L = rs ++ [f] := ⟨_, rfl⟩
    have hLl : m + 1 = L.length := by rw [hL, List.length_append, ← HM.out]; rfl
    have hE : putT2 ts f = makeT L := by
      unfold putT2
      rw [if_pos HGG.out, hL, HRS.out]
      congr 2
      exact List.filter_congr fun g _ => by rw [bne, Bool.eq_iff_iff]; simp
    have hro := owns_rowAt (show OwnFl w9 w4.heap.size a' c' L by unfold OwnFl; rw [← hLl, hL]; exact hrow9)
    have hM := make_any w9 a' c' L hro.rd hro.sl (by omega) (fun p hp => by
      rw [hL, HRS.out] at hp
      rcases List.mem_append.1 hp with hp | hp
      · exact HSZ.out p (List.mem_filter.1 hp).1
      · simp at hp; subst hp; exact hf)
    rw [← hLl, ← hE, ← HX.out] at hM
    obtain ⟨x, qs⟩ := X
    obtain ⟨nq, hnq⟩ : ∃ q, q = qs.length := ⟨_, rfl⟩
    unfold MakeTo at hM HOUT ⊢
    dsimp only at hM ⊢
    rw [← hnq] at hM ⊢
    have HMK := Lib.hid hM; have HQ := Lib.hid hnq; have HB9 := Lib.hid hb9
    clear hM hro hL hE hLl HOUT hnq hrow9 hb9 f0 f1
    go_wp2_with fail
    refine HMK.out.mono ?_
    rintro e wA ⟨a7, c7, rfl, hrow, hbA⟩
    have HBA := Lib.hid (HB9.out.trans (hbA.mono HB9.out.size))
    have hqq := (HKEEP.out wA HBA.out).2.2
    have q0 := cell_of_heap hqq 0
    have qf := frozen_of_heap hqq
    have hfin : ∀ v, RowAt (wA.setCell ⟨b, 0, none⟩ v) w.heap.size a7 c7 qs ∧ Below w.heap.size w (wA.setCell ⟨b, 0, none⟩ v) := by
      intro v
      obtain ⟨z1, z2, z3, z4, z5⟩ := HSIZE.out
      have z6 := HB9.out.size
      exact ⟨(hrow.keep (fun g hg _ => Below.heap_setCell _ _ _ _ (by simp; omega))).base (by omega), (HB.out.trans (HBA.out.mono z4)).setCell (p := ⟨b, 0, none⟩) z5 v⟩
    have HFIN := Lib.hid hfin
    clear hrow hbA hqq hfin
    go_wp2_with fail
    refine bodyPost_ret (v := .tuple #[.agg #[.slice a7 nq c7], .int .i64 x]) (by simp [results, Tryz.results12, go_sem, q0]) rfl ?_
    exact ⟨a7, c7, by rw [show nq = qs.length from HQ.out], (HFIN.out _).1, (HFIN.out _).2⟩
end Go.Proofs.YtjcimajkjnjdpabGreatDoor
