/- DERIVED. The reference's Put, walked. -/
import Derived.Test.YtjcimajkjnjdpaaGreatDoorTreePut
import Derived.Test.YtjcimajkjnjdpaaGreatDoorTreeRefMount
namespace Go.Proofs.YtjcimajkjnjdpaaGreatDoor
open Go.RowKit
set_option linter.unusedVariables false

theorem filt_next {P : Pr → Bool} {t : List Pr} {k : Nat} {f : Pr} (h : t[k]? = some f) : (t.take (k + 1)).filter P = (t.take k).filter P ++ (if P f = true then [f] else []) := by
  rw [List.take_add_one, h, List.filter_append]
  cases hb : P f <;> simp [hb]
set_option maxRecDepth 100000 in
set_option maxHeartbeats 16000000 in
theorem rput_any (w : World) (a : Option Addr) (c : Nat) (ts : List Pr) (f : Pr) (hr : RdFl w a ts) (hs : Sl a ts.length c) (hl : ts.length ≤ 1000000) (hsz : ∀ p ∈ ts, p.1.length ≤ 400000) (hf : f.1.length ≤ 400000) :
    Calls Tryz.prog 20 #[.agg #[.slice a ts.length c], .agg #[strV f.1, strV f.2]] w (MakeTo w (putT2 ts f)) := by
  obtain ⟨w1, hw1, hb1, hx1, hz1, hz2⟩ := new_cell w (.slice a ts.length c) 26
  obtain ⟨w2, hw2, hb2, hx2, hz3, hz4⟩ := new_two w1 (strV f.1) (strV f.2) 41
  obtain ⟨w3, hw3, hb3, hx3, hz5, hz6⟩ := new_cell w2 (.slice none 0 0) 26
  obtain ⟨n, hnn⟩ : ∃ n, n = ts.length := ⟨_, rfl⟩
  obtain ⟨b1, hbe1⟩ : ∃ b, w.heap.size = b := ⟨_, rfl⟩
  obtain ⟨b2, hbe2⟩ : ∃ b, w1.heap.size = b := ⟨_, rfl⟩
  obtain ⟨b, hbe⟩ : ∃ b, w2.heap.size = b := ⟨_, rfl⟩
  have hb12 := hb1.trans (hb2.mono hb1.size)
  have hb13 := hb12.trans (hb3.mono hb12.size)
  have hy1 := (hb3.block _ (by omega)).trans ((hb2.block _ (by omega)).trans hx1)
  have hy2 := (hb3.block _ (by omega)).trans hx2
  have hG1 := fun W (h : Below w3.heap.size w3 W) => rtgood_any W a c ts ((hr.below hb13).below h) hl hsz
  have hout : ∀ x W, putT2 ts f = (x, []) → Below w3.heap.size w3 W → ∀ v, MakeTo w (putT2 ts f) (.returned (.tuple #[.agg #[.slice none 0 0], .int .i64 x])) (W.setCell ⟨b, 0, none⟩ v) := by
    intro x W hx hW v
    rw [hx]
    exact makeTo_err w _ x ((hb13.trans (hW.mono hb13.size)).setCell (p := ⟨b, 0, none⟩) (by show w.heap.size ≤ b; omega) v)
  rw [hbe1] at hy1; rw [hbe2] at hy2; rw [hbe] at hx3
  have hsize : b1 < w3.heap.size ∧ b2 < w3.heap.size ∧ b < w3.heap.size ∧ w.heap.size ≤ w3.heap.size ∧ w.heap.size ≤ b := by omega
  have hkeep : ∀ W, Below w3.heap.size w3 W → W.heap[b1]? = some (.cells #[.slice a n c] 26 (0, 0)) ∧ W.heap[b2]? = some (.cells #[strV f.1, strV f.2] 41 (0, 0)) ∧ W.heap[b]? = some (.cells #[.slice none 0 0] 26 (0, 0)) := fun W h => by
    rw [hnn]
    exact ⟨(h.block _ hsize.1).trans hy1, (h.block _ hsize.2.1).trans hy2, (h.block _ hsize.2.2.1).trans hx3⟩
  obtain ⟨X, hX⟩ : ∃ X, X = putT2 ts f := ⟨_, rfl⟩
  rw [← hX] at hout ⊢
  rw [← hnn] at hG1 hw1 hl ⊢
  obtain ⟨S1, hS1⟩ : ∃ S : ByteArray, S = ⟨f.1.toArray⟩ := ⟨_, rfl⟩
  obtain ⟨S2, hS2⟩ : ∃ S : ByteArray, S = ⟨f.2.toArray⟩ := ⟨_, rfl⟩
  have hsv : strV f.1 = .string S1 ∧ strV f.2 = .string S2 := ⟨by rw [hS1]; rfl, by rw [hS2]; rfl⟩
  rw [hsv.1, hsv.2] at hw2 ⊢
  have k1 := cell_of_heap (hkeep w3 (Below.refl _ _)).1 0
  have HR := Lib.hid (hr.below hb13); have HS := Lib.hid hs; have HS1 := Lib.hid hS1; have HS2 := Lib.hid hS2; have HSV := Lib.hid hsv
  have HN := Lib.hid hnn; have HB := Lib.hid hb13; have HX := Lib.hid hX; have HOUT := Lib.hid hout; have HKEEP := Lib.hid hkeep; have HSIZE := Lib.hid hsize
  have HSZ := Lib.hid hsz
  have hG := hG1 w3 (Below.refl _ _)
  clear hr hs hnn hb1 hb2 hb3 hb12 hb13 hX hout hkeep hsize hx1 hx2 hx3 hy1 hy2 hz1 hz2 hz3 hz4 hz5 hz6 hS1 hS2 hsv hsz hG1
  cases hg1 : goodT ts
  · have HE := Lib.hid (show putT2 ts f = (1, []) by unfold putT2; rw [if_neg (by rw [hg1]; simp)])
    rw [hg1] at hG
    have HG := Lib.hid hG
    clear hG hg1
    go_enter Tryz.func20, Tryz.ntmps20
    go_wp2_with fail
    refine HG.out.mono ?_
    rintro e w4 ⟨rfl, h4⟩
    have HB4 := Lib.hid h4
    obtain ⟨_, _, hq⟩ := HKEEP.out w4 h4
    have q0 := cell_of_heap hq 0
    have qf := frozen_of_heap hq
    clear h4 hq k1
    go_wp2_with fail
    refine bodyPost_ret (v := .tuple #[.agg #[.slice none 0 0], .int .i64 1]) (by simp [results, Tryz.results20, go_sem, q0]) rfl ?_
    exact HOUT.out _ _ (HX.out.trans HE.out) HB4.out _
  · have hfl := goodT_files hg1
    rw [hg1] at hG
    have HG := Lib.hid hG
    have HGG := Lib.hid hg1
    have hn32 : n ≤ 32 := by rw [HN.out]; exact hfl.1
    obtain ⟨i0, hi, hzz0, hzz1, hzz2⟩ := info_three infoFile
    have HI := Lib.hid (And.intro hi (And.intro hzz0 (And.intro hzz1 hzz2)))
    clear hG hfl hg1 hi hzz0 hzz1 hzz2
    go_enter Tryz.func20, Tryz.ntmps20
    go_wp2_with fail
    refine HG.out.mono ?_
    rintro e w4 ⟨rfl, h4⟩
    have HB4 := Lib.hid h4
    have q1 := cell_of_heap (HKEEP.out w4 h4).1 0
    clear h4 k1
    go_wp2_with fail
    clear q1
    go_loopw [6, 16] (fun y x wr => ∃ (k q : Nat) (a8 : Option Addr) (c8 : Nat), y = .slice a8 q c8 ∧ x = .int .i64 k ∧ k ≤ n ∧ q ≤ k ∧ Hid (q = ((ts.take k).filter fun g => g.1 != f.1).length) ∧ Hid (wr.ownsRow w3.heap.size 41 2 (.slice a8 q c8) q (pairsV ((ts.take k).filter fun g => g.1 != f.1))) ∧ Hid (Below w3.heap.size w3 wr)) (fun _ x _ => n - (intOf x).toNat)
    case atStart => exact ⟨0, 0, none, 0, rfl, rfl, Nat.zero_le _, Nat.le_refl _, rfl, World.ownsRow_nil _ _ _ _, HB4⟩
    case round =>
      obtain ⟨k, m, a5, c5, rfl, rfl, hkm, hqk, hq, hown, hbr⟩ := hrel
      by_cases hlt : k < n
      · obtain ⟨p, hp⟩ : ∃ p, ts[k]? = some p := ⟨_, List.getElem?_eq_getElem (by rw [← HN.out]; exact hlt)⟩
        obtain ⟨rb, o, rfl, _, hcs⟩ := HR.out.below hbr.out (fun e => by rw [e] at hp; cases hp)
        obtain ⟨p0, p1⟩ := hcs k p hp
        obtain ⟨G1, hG1⟩ : ∃ S : ByteArray, S = ⟨p.1.toArray⟩ := ⟨_, rfl⟩
        obtain ⟨G2, hG2⟩ : ∃ S : ByteArray, S = ⟨p.2.toArray⟩ := ⟨_, rfl⟩
        obtain ⟨R, hR⟩ : ∃ R, R = decide (p.1 = f.1) := ⟨_, rfl⟩
        have he : (G1.toList == S1.toList) = R := by rw [eq_bytes, hG1, HS1.out, hR]
        have hnx := filt_next (P := fun g => g.1 != f.1) hp
        unfold strV at p0 p1
        rw [← hG1] at p0; rw [← hG2] at p1
        obtain ⟨w7, hw7, hb7, hfx, _, _⟩ := new_two wr (.string G1) (.string G2) 41
        have f0 := cell_of_heap hfx 0
        have f1 := cell_of_heap hfx 1
        have HB7 := Lib.hid (hbr.out.trans (hb7.mono hbr.out.size))
        have HOWN7 := Lib.hid (ownsRow_keep hown.out (fun g hg => hb7.block g (owns_lt hown.out g hg)))
        have kk := (HKEEP.out w7 HB7.out).2.1
        rw [HSV.out.1] at kk
        have q2 := cell_of_heap kk 0
        cases R
        · have hbn : (p.1 != f.1) = true := by
            have : ¬ p.1 = f.1 := by simpa using hR.symm
            simpa using this
          rw [if_pos hbn] at hnx
          have HNX := Lib.hid hnx; have HG1 := Lib.hid hG1; have HG2 := Lib.hid hG2
          have hsrc := pr_src (heap_alloc_new w7 (.cells #[.string G1, .string G2] 41)) rfl rfl
          have HSRC := Lib.hid hsrc
          have HO9 := Lib.hid (ownsRow_keep HOWN7.out (w' := w7.alloc (.cells #[.string G1, .string G2] 41)) (fun g hg => Below.heap_alloc w7 _ g (owns_lt HOWN7.out g hg)))
          have HZ9 := Lib.hid (show w3.heap.size ≤ (w7.alloc (.cells #[.string G1, .string G2] 41)).heap.size from by have := HB7.out.size; simp; omega)
          clear hcs hfx hp hG1 hG2 hb7 hnx hsrc hbn hR kk
          go_wp2_with (first | (at_builtin; refine wpList_append_srcs rfl (.tmp 25) (.tmp 27) 22 22 rfl w3.heap.size 41 i0 _ 2 32 Tryz.underlying22 HI.out.1 HI.out.2.1 HI.out.2.2.1 HI.out.2.2.2 rfl (by decide) _ rfl m _ HO9.out _ rfl _ _ HSRC.out (by unfold maxLen; omega) (by omega) HZ9.out ?_; intro a' c' w9 hown9 hgrow _ hblk; have HNEXT := Lib.hid hown9; have HGROW := Lib.hid hgrow; clear hown9 hgrow hblk) | fail)
          go_roundw
          case rel => exact ⟨k + 1, m + 1, a', c', rfl, by go_num, hlt, by omega, by rw [HNX.out, List.length_append, ← hq.out]; rfl, by rw [HNX.out]; exact pair_snoc (g := p) HNEXT.out HG1.out HG2.out, grow_below (n := 0) HB7.out HGROW.out (fun g hg => owns_ge HO9.out g hg)⟩
          case measure => simp [intOf]; omega
        · have hbn : (p.1 != f.1) = false := by
            have : p.1 = f.1 := by simpa using hR.symm
            simpa using this
          rw [if_neg (by rw [hbn]; simp), List.append_nil] at hnx
          have HNX := Lib.hid hnx
          clear hcs hfx hp hG1 hG2 hb7 hnx hbn hR kk
          go_wp2_with fail
          go_roundw
          case rel => exact ⟨k + 1, m, a5, c5, rfl, by go_num, hlt, by omega, by rw [HNX.out]; exact hq.out, by rw [HNX.out]; exact HOWN7.out, HB7⟩
          case measure => simp [intOf]; omega
      · obtain rfl : k = n := by omega
        have ho := hown.out
        have hq2 := hq.out
        rw [List.take_of_length_le (by rw [← HN.out]; exact Nat.le_refl _)] at ho hq2
        obtain ⟨rs, hrs⟩ : ∃ rs, rs = (ts.filter fun g => g.1 != f.1) := ⟨_, rfl⟩
        rw [← hrs] at ho hq2
        have HM := Lib.hid hq2; have HRS := Lib.hid hrs
        obtain ⟨w7, hw7, hb7, hx7, _, _⟩ := new_two wr (.string S1) (.string S2) 41
        have HSRC := Lib.hid (pr_src hx7 rfl rfl)
        have HO7 := Lib.hid (ownsRow_keep ho (fun g hg => hb7.block g (owns_lt ho g hg)))
        have HB7 := Lib.hid (hbr.out.trans (hb7.mono hbr.out.size))
        have kk := (HKEEP.out wr hbr.out).2.1
        rw [HSV.out.1, HSV.out.2] at kk
        have f0 := cell_of_heap kk 0
        have f1 := cell_of_heap kk 1
        have HZ7 := Lib.hid HB7.out.size
        clear ho hown hq hq2 hrs hx7 hb7 kk
        go_wp2_with (first | (at_builtin; refine wpList_append_srcs rfl (.tmp 30) (.tmp 32) 22 22 rfl w3.heap.size 41 i0 _ 2 32 Tryz.underlying22 HI.out.1 HI.out.2.1 HI.out.2.2.1 HI.out.2.2.2 rfl (by decide) _ rfl m _ HO7.out _ rfl _ _ HSRC.out (by unfold maxLen; omega) (by omega) HZ7.out ?_; intro a' c' w9 hown9 hgrow _ hblk; have HNEXT := Lib.hid hown9; have HGROW := Lib.hid hgrow; clear hown9 hgrow hblk) | fail)
        have hrow9 := pair_snoc (g := f) HNEXT.out HS1.out HS2.out
        have hb9 := below_grown HB7.out HGROW.out (fun g hg => owns_ge HO7.out g hg)
        obtain ⟨L, hL⟩ : ∃ L, L = rs ++ [f] := ⟨_, rfl⟩
        have hLl : m + 1 = L.length := by rw [hL, List.length_append, ← HM.out]; rfl
        have hE : putT2 ts f = makeT L := by
          unfold putT2
          rw [if_pos HGG.out, hL, HRS.out]
        have hro := owns_rowAt (show OwnFl w9 w3.heap.size a' c' L by unfold OwnFl; rw [← hLl, hL]; exact hrow9)
        have hM := rmake_any w9 a' c' L hro.rd (by omega) (fun p hp => by
          rw [hL, HRS.out] at hp
          rcases List.mem_append.1 hp with hp | hp
          · exact HSZ.out p (List.mem_filter.1 hp).1
          · simp at hp; subst hp; exact hf)
        rw [← hLl, ← hE, ← HX.out] at hM
        obtain ⟨x, qs⟩ := X
        obtain ⟨nq, hnq⟩ : ∃ q, q = qs.length := ⟨_, rfl⟩
        unfold MakeTo at hM HOUT ⊢
        dsimp only at hM ⊢
        rw [← hnq] at hM ⊢
        have HMK := Lib.hid hM; have HQ := Lib.hid hnq; have HB9 := Lib.hid hb9
        clear hM hro hL hE hLl HOUT hnq hrow9 hb9 f0 f1
        go_wp2_with fail
        refine HMK.out.mono ?_
        rintro e wA ⟨a7, c7, rfl, hrow, hbA⟩
        have HBA := Lib.hid (HB9.out.trans (hbA.mono HB9.out.size))
        have hqq := (HKEEP.out wA HBA.out).2.2
        have q0 := cell_of_heap hqq 0
        have qf := frozen_of_heap hqq
        have hfin : ∀ v, RowAt (wA.setCell ⟨b, 0, none⟩ v) w.heap.size a7 c7 qs ∧ Below w.heap.size w (wA.setCell ⟨b, 0, none⟩ v) := by
          intro v
          obtain ⟨z1, z2, z3, z4, z5⟩ := HSIZE.out
          have z6 := HB9.out.size
          exact ⟨(hrow.keep (fun g hg _ => Below.heap_setCell _ _ _ _ (by simp; omega))).base (by omega), (HB.out.trans (HBA.out.mono z4)).setCell (p := ⟨b, 0, none⟩) z5 v⟩
        have HFIN := Lib.hid hfin
        clear hrow hbA hqq hfin
        go_wp2_with fail
        refine bodyPost_ret (v := .tuple #[.agg #[.slice a7 nq c7], .int .i64 x]) (by simp [results, Tryz.results20, go_sem, q0]) rfl ?_
        exact ⟨a7, c7, by rw [show nq = qs.length from HQ.out], (HFIN.out _).1, (HFIN.out _).2⟩
end Go.Proofs.YtjcimajkjnjdpaaGreatDoor
