/- DERIVED. The reference's Drop and Cut, walked. (Printed by rdropgen.py.) -/
import Derived.Test.YtjcimajkjnjdpaaGreatDoorTreeRefPut
import Derived.Deep.DeepCutAuto
namespace Go.Proofs.YtjcimajkjnjdpaaGreatDoor
open Go.RowKit
set_option linter.unusedVariables false

/-- What the reference's Cut answers. -/
def rcutT (t : List Pr) (d : List UInt8) : Int × List Pr := if goodT t = true then (if placeB d = true then (0, cutL d t) else (10, [])) else (1, [])
set_option maxRecDepth 100000 in
set_option maxHeartbeats 16000000 in
theorem rdrop_any (w : World) (a : Option Addr) (c : Nat) (ts : List Pr) (D : ByteArray) (hr : RdFl w a ts) (hl : ts.length ≤ 1000000) (hsz : ∀ p ∈ ts, p.1.length ≤ 400000) (hD : D.size ≤ 400000) :
    Calls Tryz.prog 22 #[.agg #[.slice a ts.length c], .string D] w (MakeTo w (dropT ts D.data.toList)) := by
  obtain ⟨w1, hw1, hb1, hx1, hz1, hz2⟩ := new_cell w (.slice a ts.length c) 26
  obtain ⟨w3, hw3, hb3, hx3, hz5, hz6⟩ := new_cell w1 (.slice none 0 0) 26
  obtain ⟨n, hnn⟩ : ∃ n, n = ts.length := ⟨_, rfl⟩
  obtain ⟨b1, hbe1⟩ : ∃ b, w.heap.size = b := ⟨_, rfl⟩
  obtain ⟨b, hbe⟩ : ∃ b, w1.heap.size = b := ⟨_, rfl⟩
  have hb13 := hb1.trans (hb3.mono hb1.size)
  have hy1 := (hb3.block _ (by omega)).trans hx1
  have hG1 := fun W (h : Below w3.heap.size w3 W) => rtgood_any W a c ts ((hr.below hb13).below h) hl hsz
  have hout : ∀ x W, dropT ts D.data.toList = (x, []) → Below w3.heap.size w3 W → ∀ v, MakeTo w (dropT ts D.data.toList) (.returned (.tuple #[.agg #[.slice none 0 0], .int .i64 x])) (W.setCell ⟨b, 0, none⟩ v) := by
    intro x W hx hW v
    rw [hx]
    exact makeTo_err w _ x ((hb13.trans (hW.mono hb13.size)).setCell (p := ⟨b, 0, none⟩) (by show w.heap.size ≤ b; omega) v)
  rw [hbe1] at hy1; rw [hbe] at hx3
  have hsize : b1 < w3.heap.size ∧ b < w3.heap.size ∧ w.heap.size ≤ w3.heap.size ∧ w.heap.size ≤ b := by omega
  have hkeep : ∀ W, Below w3.heap.size w3 W → W.heap[b1]? = some (.cells #[.slice a n c] 26 (0, 0)) ∧ W.heap[b]? = some (.cells #[.slice none 0 0] 26 (0, 0)) := fun W h => by
    rw [hnn]
    exact ⟨(h.block _ hsize.1).trans hy1, (h.block _ hsize.2.1).trans hx3⟩
  obtain ⟨X, hX⟩ : ∃ X, X = dropT ts D.data.toList := ⟨_, rfl⟩
  rw [← hX] at hout ⊢
  rw [← hnn] at hG1 hw1 hl ⊢
  have k1 := cell_of_heap (hkeep w3 (Below.refl _ _)).1 0
  have HR := Lib.hid (hr.below hb13)
  have HN := Lib.hid hnn; have HB := Lib.hid hb13; have HX := Lib.hid hX; have HOUT := Lib.hid hout; have HKEEP := Lib.hid hkeep; have HSIZE := Lib.hid hsize
  have HSZ := Lib.hid hsz
  have hG := hG1 w3 (Below.refl _ _)
  clear hr hnn hb1 hb3 hb13 hX hout hkeep hsize hx1 hx3 hy1 hz1 hz2 hz5 hz6 hsz hG1
  cases hg1 : goodT ts
  · have HE := Lib.hid (show dropT ts D.data.toList = (1, []) by unfold dropT; rw [if_neg (by rw [hg1]; simp)])
    rw [hg1] at hG
    have HG := Lib.hid hG
    clear hG hg1
    go_enter Tryz.func22, Tryz.ntmps22
    go_wp2_with fail
    refine HG.out.mono ?_
    rintro e w4 ⟨rfl, h4⟩
    have HB4 := Lib.hid h4
    have hq := (HKEEP.out w4 h4).2
    have q0 := cell_of_heap hq 0
    have qf := frozen_of_heap hq
    clear h4 hq k1
    go_wp2_with fail
    refine bodyPost_ret (v := .tuple #[.agg #[.slice none 0 0], .int .i64 1]) (by simp [results, Tryz.results22, go_sem, q0]) rfl ?_
    exact HOUT.out _ _ (HX.out.trans HE.out) HB4.out _
  · have hfl := goodT_files hg1
    rw [hg1] at hG
    have HG := Lib.hid hG
    have HGG := Lib.hid hg1; have HFL := Lib.hid hfl
    have hn32 : n ≤ 32 := by rw [HN.out]; exact hfl.1
    obtain ⟨i0, hi, hzz0, hzz1, hzz2⟩ := info_three infoFile
    have HI := Lib.hid (And.intro hi (And.intro hzz0 (And.intro hzz1 hzz2)))
    clear hG hfl hg1 hi hzz0 hzz1 hzz2
    go_enter Tryz.func22, Tryz.ntmps22
    go_wp2_with fail
    refine HG.out.mono ?_
    rintro e w4 ⟨rfl, h4⟩
    have HB4 := Lib.hid h4
    clear h4 k1
    obtain ⟨w5, hw5, hb5, hx5, hs5, hs6⟩ := new_cell w4 (.slice none 0 0) 26
    have HB5 := Lib.hid (HB4.out.trans (hb5.mono HB4.out.size))
    have q1 := cell_of_heap (HKEEP.out w5 HB5.out).1 0
    rw [← hw5] at q1
    have q2 := cell_of_heap (HKEEP.out w4 HB4.out).1 0
    obtain ⟨B6, hB6⟩ : ∃ B, B = w4.heap.size := ⟨_, rfl⟩
    have HBB := Lib.hid (show w3.heap.size ≤ B6 ∧ B6 < w5.heap.size by have := HB4.out.size; omega)
    have hx5' : w5.heap[B6]? = some (.cells #[.slice none 0 0] 26 (0, 0)) := by rw [hB6]; exact hx5
    have HX5 := Lib.hid hx5'; have HW5 := Lib.hid hw5; have HB6 := Lib.hid hB6
    clear hb5 hx5 hs5 hs6 hx5' hw5 hB6
    go_wp2_with fail
    rw [HW5.out, ← HB6.out]
    clear q1 q2
    go_loopw [17] (fun x wr => ∃ (k q : Nat) (a8 : Option Addr) (c8 : Nat), x = .int .i64 k ∧ k ≤ n ∧ q ≤ k ∧ Hid (q = ((ts.take k).filter fun g => !dropB D.data.toList g).length) ∧ Hid (wr.ownsRow w5.heap.size 41 2 (.slice a8 q c8) q (pairsV ((ts.take k).filter fun g => !dropB D.data.toList g))) ∧ Hid (wr.heap[B6]? = some (.cells #[.slice a8 q c8] 26 (0, 0))) ∧ Hid (Below w3.heap.size w3 wr) ∧ Hid (w5.heap.size ≤ wr.heap.size)) (fun x _ => n - (intOf x).toNat)
    case atStart => exact ⟨0, 0, none, 0, rfl, Nat.zero_le _, Nat.le_refl _, rfl, World.ownsRow_nil _ _ _ _, HX5, HB5, Nat.le_refl _⟩
    case round =>
      obtain ⟨k, q, a8, c8, rfl, hkm, hqk, hq, hown, hcell, hbr, hsz5⟩ := hrel
      by_cases hlt : k < n
      · obtain ⟨p, hp⟩ : ∃ p, ts[k]? = some p := ⟨_, List.getElem?_eq_getElem (by rw [← HN.out]; exact hlt)⟩
        obtain ⟨rb, o, rfl, _, hcs⟩ := HR.out.below hbr.out (fun e => by rw [e] at hp; cases hp)
        obtain ⟨p0, p1⟩ := hcs k p hp
        obtain ⟨S1, hS1⟩ : ∃ S : ByteArray, S = ⟨p.1.toArray⟩ := ⟨_, rfl⟩
        obtain ⟨S2, hS2⟩ : ∃ S : ByteArray, S = ⟨p.2.toArray⟩ := ⟨_, rfl⟩
        have hS1z : S1.size ≤ 400000 := by rw [hS1, str_size]; exact HSZ.out p (List.mem_of_getElem? hp)
        unfold strV at p0 p1
        rw [← hS1] at p0; rw [← hS2] at p1
        obtain ⟨w7, hw7, hb7, hfx, _, _⟩ := new_two wr (.string S1) (.string S2) 41
        have f0 := cell_of_heap hfx 0
        have HFX := Lib.hid hfx
        have HB7 := Lib.hid (hbr.out.trans (hb7.mono hbr.out.size))
        have HOWN7 := Lib.hid (ownsRow_keep hown.out (fun g hg => hb7.block g (owns_lt hown.out g hg)))
        have HC7 := Lib.hid ((hb7.block _ (lt_of_heap hcell.out)).trans hcell.out)
        have HZ7 := Lib.hid (Nat.le_trans hsz5.out hb7.size)
        have HP := Lib.hid hp; have HS1 := Lib.hid hS1; have HS2 := Lib.hid hS2
        have hnx := filt_next (P := fun g => !dropB D.data.toList g) hp
        have hgp := (firstBad_none.1 HFL.out.2.1 p (List.mem_of_getElem? hp)).1
        obtain ⟨R, hR⟩ : ∃ R, R = decide (p.1 = D.data.toList) := ⟨_, rfl⟩
        have he : (S1.toList == D.toList) = R := by rw [eq_bytes, hS1, hR]
        obtain ⟨E, hE⟩ : ∃ E, E = D.data.toList.isEmpty := ⟨_, rfl⟩
        have hempty : D.toList.isEmpty = E := by rw [Lib.toList_data, hE]
        have hER : E = true → R = false := by
          intro h
          rw [hR]
          have h1 : D.data.toList = [] := by rw [h] at hE; simpa using hE.symm
          have h2 := good_ne hgp
          rw [h1]
          simpa using h2
        have hU := fun W => rahead_any D S1 W hD hS1z
        rw [show S1.data.toList = p.1 by rw [hS1]] at hU
        have hdb : dropB D.data.toList p = (!E && ((underP D.data.toList p.1).2 || R)) := by unfold dropB; rw [← hE, ← hR]
        rw [hdb] at hnx
        obtain ⟨u2, hu2⟩ : ∃ u, u = (underP D.data.toList p.1).2 := ⟨_, rfl⟩
        rw [← hu2] at hU hnx
        have HU := Lib.hid hU; have HNX := Lib.hid hnx; have HER := Lib.hid hER
        clear hcs hfx hp hS1 hS2 hS1z hb7 hnx hgp hR hE hER hU hdb hu2 hown hcell hbr hsz5
        go_upto_region 7 with fail
        go_cut [35] (fun x wx => x = .bool (!(!E && (u2 || R))) ∧ Hid (Below w7.heap.size w7 wx))
        case first =>
          cases E
          · cases R
            · go_wp2_with fail
              refine (HU.out _).mono ?_
              rintro e w8 ⟨rfl, h8⟩
              have H8 := Lib.hid h8
              clear h8
              go_wp2_with fail
              go_meet
              first | exact ⟨rfl, H8⟩ | exact ⟨by simp, H8⟩
            · go_wp2_with fail
              go_meet
              first | exact ⟨rfl, Below.refl _ _⟩ | exact ⟨by simp, Below.refl _ _⟩
          · have hRf := HER.out rfl
            subst hRf
            go_wp2_with fail
            go_meet
            first | exact ⟨rfl, Below.refl _ _⟩ | exact ⟨by simp, Below.refl _ _⟩
        obtain ⟨rfl, h8⟩ := hcut
        obtain ⟨w8, hw8⟩ : ∃ w8, w8 = wc := ⟨_, rfl⟩
        subst hw8
        have HB8 := Lib.hid (HB7.out.trans (h8.out.mono HB7.out.size))
        have HC8 := Lib.hid ((h8.out.block _ (lt_of_heap HC7.out)).trans HC7.out)
        have HO8 := Lib.hid (ownsRow_keep HOWN7.out (fun g hg => h8.out.block g (owns_lt HOWN7.out g hg)))
        have HZ8 := Lib.hid (Nat.le_trans HZ7.out h8.out.size)
        clear he hempty HER HU
        obtain ⟨V, hV⟩ : ∃ V, V = (!(!E && (u2 || R))) := ⟨_, rfl⟩
        rw [← hV] at HNX ⊢
        cases V
        · have hnx := HNX.out
          rw [if_neg (by simp), List.append_nil] at hnx
          have HNX2 := Lib.hid hnx
          clear hnx f0 hV
          go_wp2_with fail
          go_roundw
          case rel => exact ⟨k + 1, q, a8, c8, by go_num, hlt, by omega, by rw [HNX2.out]; exact hq.out, by rw [HNX2.out]; exact HO8.out, HC8, HB8, HZ8⟩
          case measure => simp [intOf]; omega
        · have hnx := HNX.out
          rw [if_pos rfl] at hnx
          have HNX2 := Lib.hid hnx
          clear hnx hV
          have f1 := cell_of_heap ((h8.out.block _ (lt_of_heap HFX.out)).trans HFX.out) 0
          have f2 := cell_of_heap ((h8.out.block _ (lt_of_heap HFX.out)).trans HFX.out) 1
          have hsrc := pr_src (heap_alloc_new w8 (.cells #[.string S1, .string S2] 41)) rfl rfl
          have HSRC := Lib.hid hsrc
          have HO9 := Lib.hid (ownsRow_keep HO8.out (w' := (w8.alloc (.cells #[.string S1, .string S2] 41))) (fun g hg => Below.heap_alloc w8 _ g (owns_lt HO8.out g hg)))
          have HZ9 := Lib.hid (show w5.heap.size ≤ (w8.alloc (.cells #[.string S1, .string S2] 41)).heap.size from by have := HZ8.out; simp; omega)
          have g0 := cell_of_heap HC8.out 0
          have hlt8 := lt_of_heap HC8.out
          have hC9 : (w8.alloc (.cells #[.string S1, .string S2] 41)).heap[B6]? = some (.cells #[.slice a8 q c8] 26 (0, 0)) := (Below.heap_alloc w8 _ B6 hlt8).trans HC8.out
          have HC9 := Lib.hid hC9
          clear f0 hsrc hC9
          go_wp2_with (first | (at_builtin; refine wpList_append_srcs rfl (.tmp 37) (.tmp 39) 22 22 rfl w5.heap.size 41 i0 _ 2 32 Tryz.underlying22 HI.out.1 HI.out.2.1 HI.out.2.2.1 HI.out.2.2.2 rfl (by decide) _ rfl q _ HO9.out _ rfl _ _ HSRC.out (by unfold maxLen; omega) (by omega) HZ9.out ?_; intro a' c' w9 hown9 hgrow _ hblk; have HNEXT := Lib.hid hown9; have HGROW := Lib.hid hgrow; have hc9 : w9.heap[B6]? = some (.cells #[.slice a8 q c8] 26 (0, 0)) := (hgrow.block B6 (lt_of_heap HC9.out) (fun e => by have := owns_ge HO9.out B6 e.symm; have := HBB.out.2; omega)).trans HC9.out; have y0 := cell_of_heap hc9 0; have yf := frozen_of_heap hc9; have HC10 := Lib.hid hc9; clear hown9 hgrow hblk hc9) | fail)
          have hset : ∀ g, g ≠ B6 → (w9.setCell ⟨B6, 0, none⟩ (.slice a' (q + 1) c')).heap[g]? = w9.heap[g]? := fun g hg => Below.heap_setCell _ _ _ _ (by simpa using hg)
          have hbn := below_grown (Below.alloc HB8.out HB8.out.size (.cells #[.string S1, .string S2] 41)) HGROW.out (fun g hg => by have := owns_ge HO9.out g hg; have := HBB.out; omega)
          have HEND := Lib.hid (show (w9.setCell ⟨B6, 0, none⟩ (.slice a' (q + 1) c')).ownsRow w5.heap.size 41 2 (.slice a' (q + 1) c') (q + 1) (pairsV (((ts.take k).filter fun g => !dropB D.data.toList g) ++ [p])) from ownsRow_keep (pair_snoc (g := p) HNEXT.out HS1.out HS2.out) (fun g hg => hset g (by have := owns_ge HNEXT.out g hg; have := HBB.out.2; omega)))
          have HCE := Lib.hid (heap_setCell_here (i := 0) (.slice a' (q + 1) c') HC10.out)
          have HBE := Lib.hid (hbn.setCell (p := ⟨B6, 0, none⟩) HBB.out.1 (.slice a' (q + 1) c'))
          have HZE := Lib.hid (show w5.heap.size ≤ (w9.setCell ⟨B6, 0, none⟩ (.slice a' (q + 1) c')).heap.size from by have := HZ9.out; have := HGROW.out.size; simp only [World.setCell, Array.size_modify]; omega)
          clear hset hbn y0 yf
          go_wp2_with fail
          go_roundw
          case rel => exact ⟨k + 1, q + 1, a', c', by go_num, hlt, by omega, by rw [HNX2.out, List.length_append, ← hq.out]; rfl, by rw [HNX2.out]; exact HEND.out, HCE, HBE, HZE⟩
          case measure => simp [intOf]; omega
      · obtain rfl : k = n := by omega
        have ho := hown.out
        have hq2 := hq.out
        rw [List.take_of_length_le (by rw [← HN.out]; exact Nat.le_refl _)] at ho hq2
        obtain ⟨rs, hrs⟩ : ∃ rs, rs = (ts.filter fun g => !dropB D.data.toList g) := ⟨_, rfl⟩
        rw [← hrs] at ho hq2
        have HM := Lib.hid hq2; have HRS := Lib.hid hrs
        have hrow := owns_rowAt (show OwnFl wr w5.heap.size a8 c8 rs by unfold OwnFl; rw [← hq2]; exact ho)
        have HROW := Lib.hid hrow
        have q1 := cell_of_heap (HKEEP.out wr hbr.out).1 0
        have hqq := (HKEEP.out wr hbr.out).2
        have q0 := cell_of_heap hqq 0
        have qf := frozen_of_heap hqq
        have g0 := cell_of_heap hcell.out 0
        have hfin : ∀ v, RowAt (wr.setCell ⟨b, 0, none⟩ v) w.heap.size a8 c8 rs ∧ Below w.heap.size w (wr.setCell ⟨b, 0, none⟩ v) := by
          intro v
          obtain ⟨z1, z3, z4, z5⟩ := HSIZE.out
          obtain ⟨z6, z7⟩ := HBB.out
          exact ⟨(HROW.out.keep (fun g hg _ => Below.heap_setCell _ _ _ _ (by simp; omega))).base (by omega), (HB.out.trans (hbr.out.mono z4)).setCell (p := ⟨b, 0, none⟩) z5 v⟩
        have HFIN := Lib.hid hfin; have HBR := hbr
        clear ho hq2 hrs hrow hqq hfin hown hcell hq
        by_cases hmn : q = k
        · have HE := Lib.hid (show dropT ts D.data.toList = (14, []) by unfold dropT; rw [if_pos HGG.out, ← HRS.out, if_pos (by rw [← HM.out, ← HN.out]; exact hmn)])
          subst hmn
          go_wp2_with fail
          refine bodyPost_ret (v := .tuple #[.agg #[.slice none 0 0], .int .i64 14]) (by simp [results, Tryz.results22, go_sem, q0]) rfl ?_
          exact HOUT.out _ _ (HX.out.trans HE.out) HBR.out _
        · have hne : ((q : Int) == (k : Int)) = false := beq_eq_false_iff_ne.2 (by omega)
          have hE : X = (0, rs) := by rw [HX.out]; unfold dropT; rw [if_pos HGG.out, ← HRS.out, if_neg (by rw [← HM.out, ← HN.out]; exact hmn)]
          have HXE := Lib.hid hE
          clear hE hmn
          go_wp2_with fail
          refine bodyPost_ret (v := .tuple #[.agg #[.slice a8 q c8], .int .i64 0]) (by simp [results, Tryz.results22, go_sem, q0]) rfl ?_
          rw [HXE.out]
          exact ⟨a8, c8, by rw [show q = rs.length from HM.out], (HFIN.out _).1, (HFIN.out _).2⟩
set_option maxRecDepth 100000 in
set_option maxHeartbeats 16000000 in
theorem rcut_any (w : World) (a : Option Addr) (c : Nat) (ts : List Pr) (D : ByteArray) (hr : RdFl w a ts) (hl : ts.length ≤ 1000000) (hsz : ∀ p ∈ ts, p.1.length ≤ 400000) (hD : D.size ≤ 400000) :
    Calls Tryz.prog 23 #[.agg #[.slice a ts.length c], .string D] w (MakeTo w (rcutT ts D.data.toList)) := by
  obtain ⟨w1, hw1, hb1, hx1, hz1, hz2⟩ := new_cell w (.slice a ts.length c) 26
  obtain ⟨w3, hw3, hb3, hx3, hz5, hz6⟩ := new_cell w1 (.slice none 0 0) 26
  obtain ⟨n, hnn⟩ : ∃ n, n = ts.length := ⟨_, rfl⟩
  obtain ⟨b1, hbe1⟩ : ∃ b, w.heap.size = b := ⟨_, rfl⟩
  obtain ⟨b, hbe⟩ : ∃ b, w1.heap.size = b := ⟨_, rfl⟩
  have hb13 := hb1.trans (hb3.mono hb1.size)
  have hy1 := (hb3.block _ (by omega)).trans hx1
  have hG1 := fun W (h : Below w3.heap.size w3 W) => rtgood_any W a c ts ((hr.below hb13).below h) hl hsz
  have hout : ∀ x W, rcutT ts D.data.toList = (x, []) → Below w3.heap.size w3 W → ∀ v, MakeTo w (rcutT ts D.data.toList) (.returned (.tuple #[.agg #[.slice none 0 0], .int .i64 x])) (W.setCell ⟨b, 0, none⟩ v) := by
    intro x W hx hW v
    rw [hx]
    exact makeTo_err w _ x ((hb13.trans (hW.mono hb13.size)).setCell (p := ⟨b, 0, none⟩) (by show w.heap.size ≤ b; omega) v)
  rw [hbe1] at hy1; rw [hbe] at hx3
  have hsize : b1 < w3.heap.size ∧ b < w3.heap.size ∧ w.heap.size ≤ w3.heap.size ∧ w.heap.size ≤ b := by omega
  have hkeep : ∀ W, Below w3.heap.size w3 W → W.heap[b1]? = some (.cells #[.slice a n c] 26 (0, 0)) ∧ W.heap[b]? = some (.cells #[.slice none 0 0] 26 (0, 0)) := fun W h => by
    rw [hnn]
    exact ⟨(h.block _ hsize.1).trans hy1, (h.block _ hsize.2.1).trans hx3⟩
  obtain ⟨X, hX⟩ : ∃ X, X = rcutT ts D.data.toList := ⟨_, rfl⟩
  rw [← hX] at hout ⊢
  rw [← hnn] at hG1 hw1 hl ⊢
  have k1 := cell_of_heap (hkeep w3 (Below.refl _ _)).1 0
  have HR := Lib.hid (hr.below hb13)
  have HN := Lib.hid hnn; have HB := Lib.hid hb13; have HX := Lib.hid hX; have HOUT := Lib.hid hout; have HKEEP := Lib.hid hkeep; have HSIZE := Lib.hid hsize
  have HSZ := Lib.hid hsz
  have hG := hG1 w3 (Below.refl _ _)
  clear hr hnn hb1 hb3 hb13 hX hout hkeep hsize hx1 hx3 hy1 hz1 hz2 hz5 hz6 hsz hG1
  cases hg1 : goodT ts
  · have HE := Lib.hid (show rcutT ts D.data.toList = (1, []) by unfold rcutT; rw [if_neg (by rw [hg1]; simp)])
    rw [hg1] at hG
    have HG := Lib.hid hG
    clear hG hg1
    go_enter Tryz.func23, Tryz.ntmps23
    go_wp2_with fail
    refine HG.out.mono ?_
    rintro e w4 ⟨rfl, h4⟩
    have HB4 := Lib.hid h4
    have hq := (HKEEP.out w4 h4).2
    have q0 := cell_of_heap hq 0
    have qf := frozen_of_heap hq
    clear h4 hq k1
    go_wp2_with fail
    refine bodyPost_ret (v := .tuple #[.agg #[.slice none 0 0], .int .i64 1]) (by simp [results, Tryz.results23, go_sem, q0]) rfl ?_
    exact HOUT.out _ _ (HX.out.trans HE.out) HB4.out _
  · have hfl := goodT_files hg1
    rw [hg1] at hG
    have HG := Lib.hid hG
    have HGG := Lib.hid hg1; have HFL := Lib.hid hfl
    have hn32 : n ≤ 32 := by rw [HN.out]; exact hfl.1
    obtain ⟨i0, hi, hzz0, hzz1, hzz2⟩ := info_three infoFile
    have HI := Lib.hid (And.intro hi (And.intro hzz0 (And.intro hzz1 hzz2)))
    clear hG hfl hg1 hi hzz0 hzz1 hzz2
    have hGD := fun W => rplace_any D W hD
    cases hpl : placeB D.data.toList
    · have HE := Lib.hid (show rcutT ts D.data.toList = (10, []) by unfold rcutT; rw [if_pos HGG.out, if_neg (by rw [hpl]; simp)])
      rw [hpl] at hGD
      have HGD := Lib.hid hGD
      clear hGD hpl
      go_enter Tryz.func23, Tryz.ntmps23
      go_wp2_with fail
      refine HG.out.mono ?_
      rintro e w4 ⟨rfl, h4⟩
      have HB4 := Lib.hid h4
      clear h4 k1
      go_wp2_with fail
      refine (HGD.out w4).mono ?_
      rintro e w5 ⟨rfl, h5⟩
      have HB5 := Lib.hid (HB4.out.trans (h5.mono HB4.out.size))
      have hq := (HKEEP.out w5 HB5.out).2
      have q0 := cell_of_heap hq 0
      have qf := frozen_of_heap hq
      clear h5 hq
      go_wp2_with fail
      refine bodyPost_ret (v := .tuple #[.agg #[.slice none 0 0], .int .i64 10]) (by simp [results, Tryz.results23, go_sem, q0]) rfl ?_
      exact HOUT.out _ _ (HX.out.trans HE.out) HB5.out _
    have HPL := Lib.hid hpl
    rw [hpl] at hGD
    have HGD := Lib.hid hGD
    clear hGD hpl
    go_enter Tryz.func23, Tryz.ntmps23
    go_wp2_with fail
    refine HG.out.mono ?_
    rintro e w4 ⟨rfl, h4⟩
    have HB4 := Lib.hid h4
    clear h4 k1
    go_wp2_with fail
    refine (HGD.out w4).mono ?_
    rintro e w4 ⟨rfl, h5⟩
    have HB4 := Lib.hid (HB4.out.trans (h5.mono HB4.out.size))
    clear h5
    obtain ⟨w5, hw5, hb5, hx5, hs5, hs6⟩ := new_cell w4 (.slice none 0 0) 26
    have HB5 := Lib.hid (HB4.out.trans (hb5.mono HB4.out.size))
    have q1 := cell_of_heap (HKEEP.out w5 HB5.out).1 0
    rw [← hw5] at q1
    have q2 := cell_of_heap (HKEEP.out w4 HB4.out).1 0
    obtain ⟨B6, hB6⟩ : ∃ B, B = w4.heap.size := ⟨_, rfl⟩
    have HBB := Lib.hid (show w3.heap.size ≤ B6 ∧ B6 < w5.heap.size by have := HB4.out.size; omega)
    have hx5' : w5.heap[B6]? = some (.cells #[.slice none 0 0] 26 (0, 0)) := by rw [hB6]; exact hx5
    have HX5 := Lib.hid hx5'; have HW5 := Lib.hid hw5; have HB6 := Lib.hid hB6
    clear hb5 hx5 hs5 hs6 hx5' hw5 hB6
    go_wp2_with fail
    rw [HW5.out, ← HB6.out]
    clear q1 q2
    go_loopw [23] (fun x wr => ∃ (k q : Nat) (a8 : Option Addr) (c8 : Nat), x = .int .i64 k ∧ k ≤ n ∧ q ≤ k ∧ Hid (q = (cutL D.data.toList (ts.take k)).length) ∧ Hid (wr.ownsRow w5.heap.size 41 2 (.slice a8 q c8) q (pairsV (cutL D.data.toList (ts.take k)))) ∧ Hid (wr.heap[B6]? = some (.cells #[.slice a8 q c8] 26 (0, 0))) ∧ Hid (Below w3.heap.size w3 wr) ∧ Hid (w5.heap.size ≤ wr.heap.size)) (fun x _ => n - (intOf x).toNat)
    case atStart => exact ⟨0, 0, none, 0, rfl, Nat.zero_le _, Nat.le_refl _, rfl, World.ownsRow_nil _ _ _ _, HX5, HB5, Nat.le_refl _⟩
    case round =>
      obtain ⟨k, q, a8, c8, rfl, hkm, hqk, hq, hown, hcell, hbr, hsz5⟩ := hrel
      by_cases hlt : k < n
      · obtain ⟨p, hp⟩ : ∃ p, ts[k]? = some p := ⟨_, List.getElem?_eq_getElem (by rw [← HN.out]; exact hlt)⟩
        obtain ⟨rb, o, rfl, _, hcs⟩ := HR.out.below hbr.out (fun e => by rw [e] at hp; cases hp)
        obtain ⟨p0, p1⟩ := hcs k p hp
        obtain ⟨S1, hS1⟩ : ∃ S : ByteArray, S = ⟨p.1.toArray⟩ := ⟨_, rfl⟩
        obtain ⟨S2, hS2⟩ : ∃ S : ByteArray, S = ⟨p.2.toArray⟩ := ⟨_, rfl⟩
        have hS1z : S1.size ≤ 400000 := by rw [hS1, str_size]; exact HSZ.out p (List.mem_of_getElem? hp)
        unfold strV at p0 p1
        rw [← hS1] at p0; rw [← hS2] at p1
        obtain ⟨w7, hw7, hb7, hfx, _, _⟩ := new_two wr (.string S1) (.string S2) 41
        have f0 := cell_of_heap hfx 0
        have HFX := Lib.hid hfx
        have HB7 := Lib.hid (hbr.out.trans (hb7.mono hbr.out.size))
        have HOWN7 := Lib.hid (ownsRow_keep hown.out (fun g hg => hb7.block g (owns_lt hown.out g hg)))
        have HC7 := Lib.hid ((hb7.block _ (lt_of_heap hcell.out)).trans hcell.out)
        have HZ7 := Lib.hid (Nat.le_trans hsz5.out hb7.size)
        have HP := Lib.hid hp; have HS1 := Lib.hid hS1; have HS2 := Lib.hid hS2
        have hU := fun W => runder_any D S1 W hD hS1z
        rw [show S1.data.toList = p.1 by rw [hS1]] at hU
        have hnx := cutL_next (d := D.data.toList) hp
        clear hcs hfx hp hS1 hS2 hS1z hb7 hown hcell hbr hsz5
        cases hu : underP D.data.toList p.1 with
        | mk u1 u2 =>
        rw [hu] at hU
        dsimp only at hU
        unfold strV at hU
        obtain ⟨P, hP⟩ : ∃ P : ByteArray, P = ⟨u1.toArray⟩ := ⟨_, rfl⟩
        rw [← hP] at hU
        unfold cutF at hnx
        rw [hu] at hnx
        dsimp only at hnx
        have HU := Lib.hid hU; have HP2 := Lib.hid hP
        clear hU hP hu
        cases u2
        · rw [if_neg (by simp)] at hnx
          have HNX := Lib.hid (show cutL D.data.toList (ts.take (k + 1)) = cutL D.data.toList (ts.take k) by rw [hnx]; simp)
          clear hnx
          go_wp2_with fail
          refine (HU.out w7).mono ?_
          rintro e w8 ⟨rfl, h8⟩
          have HB8 := Lib.hid (HB7.out.trans (h8.mono HB7.out.size))
          have HC8 := Lib.hid ((h8.block _ (lt_of_heap HC7.out)).trans HC7.out)
          have HO8 := Lib.hid (ownsRow_keep HOWN7.out (fun g hg => h8.block g (owns_lt HOWN7.out g hg)))
          have HZ8 := Lib.hid (Nat.le_trans HZ7.out h8.size)
          clear h8 f0
          go_wp2_with fail
          go_roundw
          case rel => exact ⟨k + 1, q, a8, c8, by go_num, hlt, by omega, by rw [HNX.out]; exact hq.out, by rw [HNX.out]; exact HO8.out, HC8, HB8, HZ8⟩
          case measure => simp [intOf]; omega
        · rw [if_pos rfl] at hnx
          have HNX2 := Lib.hid (show cutL D.data.toList (ts.take (k + 1)) = cutL D.data.toList (ts.take k) ++ [(u1, p.2)] from hnx)
          clear hnx
          go_wp2_with fail
          refine (HU.out w7).mono ?_
          rintro e w8 ⟨rfl, h8'⟩
          have h8 := Lib.hid h8'
          have HB8 := Lib.hid (HB7.out.trans (h8.out.mono HB7.out.size))
          have HC8 := Lib.hid ((h8.out.block _ (lt_of_heap HC7.out)).trans HC7.out)
          have HO8 := Lib.hid (ownsRow_keep HOWN7.out (fun g hg => h8.out.block g (owns_lt HOWN7.out g hg)))
          have HZ8 := Lib.hid (Nat.le_trans HZ7.out h8.out.size)
          clear h8'
          have f2 := cell_of_heap ((h8.out.block _ (lt_of_heap HFX.out)).trans HFX.out) 1
          have hsrc := pr_src (heap_alloc_new w8 (.cells #[.string P, .string S2] 41)) rfl rfl
          have HSRC := Lib.hid hsrc
          have HO9 := Lib.hid (ownsRow_keep HO8.out (w' := (w8.alloc (.cells #[.string P, .string S2] 41))) (fun g hg => Below.heap_alloc w8 _ g (owns_lt HO8.out g hg)))
          have HZ9 := Lib.hid (show w5.heap.size ≤ (w8.alloc (.cells #[.string P, .string S2] 41)).heap.size from by have := HZ8.out; simp; omega)
          have g0 := cell_of_heap HC8.out 0
          have hlt8 := lt_of_heap HC8.out
          have hC9 : (w8.alloc (.cells #[.string P, .string S2] 41)).heap[B6]? = some (.cells #[.slice a8 q c8] 26 (0, 0)) := (Below.heap_alloc w8 _ B6 hlt8).trans HC8.out
          have HC9 := Lib.hid hC9
          clear f0 hsrc hC9
          go_wp2_with (first | (at_builtin; refine wpList_append_srcs rfl (.tmp 36) (.tmp 41) 22 22 rfl w5.heap.size 41 i0 _ 2 32 Tryz.underlying22 HI.out.1 HI.out.2.1 HI.out.2.2.1 HI.out.2.2.2 rfl (by decide) _ rfl q _ HO9.out _ rfl _ _ HSRC.out (by unfold maxLen; omega) (by omega) HZ9.out ?_; intro a' c' w9 hown9 hgrow _ hblk; have HNEXT := Lib.hid hown9; have HGROW := Lib.hid hgrow; have hc9 : w9.heap[B6]? = some (.cells #[.slice a8 q c8] 26 (0, 0)) := (hgrow.block B6 (lt_of_heap HC9.out) (fun e => by have := owns_ge HO9.out B6 e.symm; have := HBB.out.2; omega)).trans HC9.out; have y0 := cell_of_heap hc9 0; have yf := frozen_of_heap hc9; have HC10 := Lib.hid hc9; clear hown9 hgrow hblk hc9) | fail)
          have hset : ∀ g, g ≠ B6 → (w9.setCell ⟨B6, 0, none⟩ (.slice a' (q + 1) c')).heap[g]? = w9.heap[g]? := fun g hg => Below.heap_setCell _ _ _ _ (by simpa using hg)
          have hbn := below_grown (Below.alloc HB8.out HB8.out.size (.cells #[.string P, .string S2] 41)) HGROW.out (fun g hg => by have := owns_ge HO9.out g hg; have := HBB.out; omega)
          have HEND := Lib.hid (show (w9.setCell ⟨B6, 0, none⟩ (.slice a' (q + 1) c')).ownsRow w5.heap.size 41 2 (.slice a' (q + 1) c') (q + 1) (pairsV ((cutL D.data.toList (ts.take k)) ++ [(u1, p.2)])) from ownsRow_keep (pair_snoc (g := (u1, p.2)) HNEXT.out HP2.out HS2.out) (fun g hg => hset g (by have := owns_ge HNEXT.out g hg; have := HBB.out.2; omega)))
          have HCE := Lib.hid (heap_setCell_here (i := 0) (.slice a' (q + 1) c') HC10.out)
          have HBE := Lib.hid (hbn.setCell (p := ⟨B6, 0, none⟩) HBB.out.1 (.slice a' (q + 1) c'))
          have HZE := Lib.hid (show w5.heap.size ≤ (w9.setCell ⟨B6, 0, none⟩ (.slice a' (q + 1) c')).heap.size from by have := HZ9.out; have := HGROW.out.size; simp only [World.setCell, Array.size_modify]; omega)
          clear hset hbn y0 yf
          go_wp2_with fail
          go_roundw
          case rel => exact ⟨k + 1, q + 1, a', c', by go_num, hlt, by omega, by rw [HNX2.out, List.length_append, ← hq.out]; rfl, by rw [HNX2.out]; exact HEND.out, HCE, HBE, HZE⟩
          case measure => simp [intOf]; omega
      · obtain rfl : k = n := by omega
        have ho := hown.out
        have hq2 := hq.out
        rw [List.take_of_length_le (by rw [← HN.out]; exact Nat.le_refl _)] at ho hq2
        obtain ⟨rs, hrs⟩ : ∃ rs, rs = (cutL D.data.toList ts) := ⟨_, rfl⟩
        rw [← hrs] at ho hq2
        have HM := Lib.hid hq2; have HRS := Lib.hid hrs
        have hrow := owns_rowAt (show OwnFl wr w5.heap.size a8 c8 rs by unfold OwnFl; rw [← hq2]; exact ho)
        have HROW := Lib.hid hrow
        have q1 := cell_of_heap (HKEEP.out wr hbr.out).1 0
        have hqq := (HKEEP.out wr hbr.out).2
        have q0 := cell_of_heap hqq 0
        have qf := frozen_of_heap hqq
        have g0 := cell_of_heap hcell.out 0
        have hfin : ∀ v, RowAt (wr.setCell ⟨b, 0, none⟩ v) w.heap.size a8 c8 rs ∧ Below w.heap.size w (wr.setCell ⟨b, 0, none⟩ v) := by
          intro v
          obtain ⟨z1, z3, z4, z5⟩ := HSIZE.out
          obtain ⟨z6, z7⟩ := HBB.out
          exact ⟨(HROW.out.keep (fun g hg _ => Below.heap_setCell _ _ _ _ (by simp; omega))).base (by omega), (HB.out.trans (hbr.out.mono z4)).setCell (p := ⟨b, 0, none⟩) z5 v⟩
        have HFIN := Lib.hid hfin; have HBR := hbr
        clear ho hq2 hrs hrow hqq hfin hown hcell hq
        have hE : X = (0, rs) := by rw [HX.out]; unfold rcutT; rw [if_pos HGG.out, if_pos HPL.out, ← HRS.out]
        have HXE := Lib.hid hE
        clear hE
        go_wp2_with fail
        refine bodyPost_ret (v := .tuple #[.agg #[.slice a8 q c8], .int .i64 0]) (by simp [results, Tryz.results23, go_sem, q0]) rfl ?_
        rw [HXE.out]
        exact ⟨a8, c8, by rw [show q = rs.length from HM.out], (HFIN.out _).1, (HFIN.out _).2⟩
end Go.Proofs.YtjcimajkjnjdpaaGreatDoor
