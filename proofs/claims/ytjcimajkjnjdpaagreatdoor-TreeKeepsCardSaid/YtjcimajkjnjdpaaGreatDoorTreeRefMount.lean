/- DERIVED. The reference's Mount, walked. -/
import Derived.Test.YtjcimajkjnjdpaaGreatDoorTreeRefGood
import Derived.Test.YtjcimajkjnjdpaaGreatDoorTreeRefP
import Derived.Test.YtjcimajkjnjdpaaGreatDoorPathJoinsV
namespace Go.Proofs.YtjcimajkjnjdpaaGreatDoor
open Go.RowKit
set_option linter.unusedVariables false

theorem new_obj2 (w : World) (cs : Array Value) (t : TypeId) : ∃ w1, w.alloc (.cells cs t) = w1 ∧ Below w.heap.size w w1 ∧ w1.heap[w.heap.size]? = some (.cells cs t (0, 0)) ∧ w.heap.size + 1 ≤ w1.heap.size ∧ w1.heap.size ≤ w.heap.size + 1 :=
  ⟨_, rfl, (Below.refl _ w).alloc (Nat.le_refl _) _, heap_alloc_new w _, by simp, by simp⟩
theorem owns_base {w : World} {base base' n m : Nat} {e : TypeId} {v : Value} {xs : List Value} (h : w.ownsRow base e m v n xs) (hb : base' ≤ base) : w.ownsRow base' e m v n xs := by
  refine ⟨h.1, ?_⟩
  rcases h.2 with h | ⟨g, cap, cur, h1, h2, h3⟩
  · exact .inl h
  · exact .inr ⟨g, cap, cur, h1, Nat.le_trans hb h2, h3⟩
set_option maxRecDepth 100000 in
set_option maxHeartbeats 16000000 in
theorem rmount_any (w : World) (a a' : Option Addr) (c c' : Nat) (ts ss : List Pr) (D : ByteArray) (hr : RdFl w a ts) (hs : Sl a ts.length c) (hr' : RdFl w a' ss) (hs' : Sl a' ss.length c') (hl : ts.length ≤ 1000000) (hl' : ss.length ≤ 1000000)
    (hsz : ∀ p ∈ ts, p.1.length ≤ 400000) (hsz' : ∀ p ∈ ss, p.1.length ≤ 400000) (hD : D.size ≤ 400000) :
    Calls Tryz.prog 25 #[.agg #[.slice a ts.length c], .string D, .agg #[.slice a' ss.length c']] w (MakeTo w (mountT ts D.data.toList ss)) := by
  obtain ⟨w1, hw1, hb1, hx1, hz1, hz2⟩ := new_cell w (.slice a ts.length c) 26
  obtain ⟨w2, hw2, hb2, hx2, hz3, hz4⟩ := new_cell w1 (.slice a' ss.length c') 26
  obtain ⟨w3, hw3, hb3, hx3, hz5, hz6⟩ := new_cell w2 (.slice none 0 0) 26
  obtain ⟨n, hnn⟩ : ∃ n, n = ts.length := ⟨_, rfl⟩
  obtain ⟨m, hmm⟩ : ∃ m, m = ss.length := ⟨_, rfl⟩
  obtain ⟨b1, hbe1⟩ : ∃ b, w.heap.size = b := ⟨_, rfl⟩
  obtain ⟨b2, hbe2⟩ : ∃ b, w1.heap.size = b := ⟨_, rfl⟩
  obtain ⟨b, hbe⟩ : ∃ b, w2.heap.size = b := ⟨_, rfl⟩
  have hb23 := hb2.trans (hb3.mono hb2.size)
  have hb13 := hb1.trans (hb23.mono hb1.size)
  have hy1 := (hb23.block _ (by omega)).trans hx1
  have hy2 := (hb3.block _ (by omega)).trans hx2
  have hG1 := fun W (h : Below w3.heap.size w3 W) => rtgood_any W a c ts ((hr.below hb13).below h) hl hsz
  have hG2 := fun W (h : Below w3.heap.size w3 W) => rtgood_any W a' c' ss ((hr'.below hb13).below h) hl' hsz'
  have hout : ∀ x W, mountT ts D.data.toList ss = (x, []) → Below w3.heap.size w3 W → ∀ v, MakeTo w (mountT ts D.data.toList ss) (.returned (.tuple #[.agg #[.slice none 0 0], .int .i64 x])) (W.setCell ⟨b, 0, none⟩ v) := by
    intro x W hx hW v
    rw [hx]
    exact makeTo_err w _ x ((hb13.trans (hW.mono hb13.size)).setCell (p := ⟨b, 0, none⟩) (by show w.heap.size ≤ b; omega) v)
  rw [hbe1] at hy1; rw [hbe2] at hy2; rw [hbe] at hx3
  have hsize : b1 < w3.heap.size ∧ b2 < w3.heap.size ∧ b < w3.heap.size ∧ w.heap.size ≤ w3.heap.size ∧ w.heap.size ≤ b := by omega
  have hkeep : ∀ W, Below w3.heap.size w3 W → W.heap[b1]? = some (.cells #[.slice a n c] 26 (0, 0)) ∧ W.heap[b2]? = some (.cells #[.slice a' m c'] 26 (0, 0)) ∧ W.heap[b]? = some (.cells #[.slice none 0 0] 26 (0, 0)) := fun W h => by
    rw [hnn, hmm]
    exact ⟨(h.block _ hsize.1).trans hy1, (h.block _ hsize.2.1).trans hy2, (h.block _ hsize.2.2.1).trans hx3⟩
  obtain ⟨X, hX⟩ : ∃ X, X = mountT ts D.data.toList ss := ⟨_, rfl⟩
  rw [← hX] at hout ⊢
  rw [← hnn] at hG1 hw1 ⊢
  rw [← hmm] at hG2 hw2 ⊢
  have k1 := cell_of_heap (hkeep w3 (Below.refl _ _)).1 0
  have k2 := cell_of_heap (hkeep w3 (Below.refl _ _)).2.1 0
  have k3 := cell_of_heap (hkeep w3 (Below.refl _ _)).2.2 0
  have HR := Lib.hid (hr.below hb13); have HS := Lib.hid hs; have HR' := Lib.hid (hr'.below hb13); have HS' := Lib.hid hs'
  have HN := Lib.hid hnn; have HM := Lib.hid hmm; have HB := Lib.hid hb13; have HX := Lib.hid hX; have HOUT := Lib.hid hout; have HKEEP := Lib.hid hkeep; have HSIZE := Lib.hid hsize
  have HG1 := Lib.hid hG1; have HG2 := Lib.hid hG2
  clear hr hs hr' hs' hnn hmm hb1 hb2 hb3 hb23 hb13 hX hout hkeep hsize hG1 hG2 hx1 hx2 hx3 hy1 hy2 hz1 hz2 hz3 hz4 hz5 hz6 hl hl' hsz hsz'
  cases hg1 : goodT ts
  · have HE := Lib.hid (show mountT ts D.data.toList ss = (1, []) by unfold mountT; rw [if_neg (by rw [hg1]; simp)])
    have hG := HG1.out w3 (Below.refl _ _)
    rw [hg1] at hG
    have HG := Lib.hid hG
    clear hG hg1 HG1 HG2
    go_enter Tryz.func25, Tryz.ntmps25
    go_wp2_with fail
    refine HG.out.mono ?_
    rintro e w4 ⟨rfl, h4⟩
    have HB4 := Lib.hid h4
    obtain ⟨_, _, hq⟩ := HKEEP.out w4 h4
    have q0 := cell_of_heap hq 0
    have qf := frozen_of_heap hq
    clear h4 hq k1 k2 k3
    go_wp2_with fail
    refine bodyPost_ret (v := .tuple #[.agg #[.slice none 0 0], .int .i64 1]) (by simp [results, Tryz.results25, go_sem, q0]) rfl ?_
    exact HOUT.out _ _ (HX.out.trans HE.out) HB4.out _
  · cases hg2 : goodT ss
    · have HE := Lib.hid (show mountT ts D.data.toList ss = (1, []) by unfold mountT; rw [if_neg (by rw [hg2]; simp)])
      have hG := HG1.out w3 (Below.refl _ _)
      rw [hg1] at hG
      rw [hg2] at HG2
      have HG := Lib.hid hG
      clear hG hg1 hg2 HG1
      go_enter Tryz.func25, Tryz.ntmps25
      go_wp2_with fail
      refine HG.out.mono ?_
      rintro e w4 ⟨rfl, h4⟩
      have HB4 := Lib.hid h4
      have k4 := cell_of_heap (HKEEP.out w4 h4).2.1 0
      clear h4 k1 k2 k3
      go_wp2_with fail
      refine (HG2.out w4 HB4.out).mono ?_
      rintro e w5 ⟨rfl, h5⟩
      have HB5 := Lib.hid (HB4.out.trans (h5.mono HB4.out.size))
      obtain ⟨_, _, hq⟩ := HKEEP.out w5 (HB4.out.trans (h5.mono HB4.out.size))
      have q0 := cell_of_heap hq 0
      have qf := frozen_of_heap hq
      clear h5 k4 hq
      go_wp2_with fail
      refine bodyPost_ret (v := .tuple #[.agg #[.slice none 0 0], .int .i64 1]) (by simp [results, Tryz.results25, go_sem, q0]) rfl ?_
      exact HOUT.out _ _ (HX.out.trans HE.out) HB5.out _

    · have hfl := goodT_files hg2
      cases hpl : placeB D.data.toList
      · have HE := Lib.hid (show mountT ts D.data.toList ss = (10, []) by unfold mountT; rw [if_pos ⟨hg1, hg2⟩, if_neg (by rw [hpl]; simp)])
        have hG := HG1.out w3 (Below.refl _ _)
        have hGD := fun W => rplace_any D W hD
        rw [hpl] at hGD
        rw [hg1] at hG
        rw [hg2] at HG2
        have HG := Lib.hid hG; have HGD := Lib.hid hGD
        clear hG hg1 hg2 HG1 hGD hpl hfl
        go_enter Tryz.func25, Tryz.ntmps25
        go_wp2_with fail
        refine HG.out.mono ?_
        rintro e w4 ⟨rfl, h4⟩
        have HB4 := Lib.hid h4
        have k4 := cell_of_heap (HKEEP.out w4 h4).2.1 0
        clear h4 k1 k2 k3
        go_wp2_with fail
        refine (HG2.out w4 HB4.out).mono ?_
        rintro e w5 ⟨rfl, h5⟩
        have HB5 := Lib.hid (HB4.out.trans (h5.mono HB4.out.size))
        clear h5 k4
        go_wp2_with fail
        refine (HGD.out w5).mono ?_
        rintro e w6 ⟨rfl, h6⟩
        have HB6 := Lib.hid (HB5.out.trans (h6.mono HB5.out.size))
        obtain ⟨_, _, hq⟩ := HKEEP.out w6 (HB5.out.trans (h6.mono HB5.out.size))
        have q0 := cell_of_heap hq 0
        have qf := frozen_of_heap hq
        clear h6 hq
        go_wp2_with fail
        refine bodyPost_ret (v := .tuple #[.agg #[.slice none 0 0], .int .i64 10]) (by simp [results, Tryz.results25, go_sem, q0]) rfl ?_
        exact HOUT.out _ _ (HX.out.trans HE.out) HB6.out _
      · have hG := HG1.out w3 (Below.refl _ _)
        have hGD := fun W => rplace_any D W hD
        rw [hpl] at hGD
        rw [hg1] at hG
        rw [hg2] at HG2
        have HGD := Lib.hid hGD
        have HG := Lib.hid hG; have HPL := Lib.hid hpl; have HFL := Lib.hid hfl
        have HGG := Lib.hid (And.intro hg1 hg2)
        have hm32 : m ≤ 32 := by rw [HM.out]; exact hfl.1
        have hn32 : n ≤ 32 := by rw [HN.out]; exact (goodT_files hg1).1
        obtain ⟨i0, hi, hzz0, hzz1, hzz2⟩ := info_three infoFile
        have HI := Lib.hid (And.intro hi (And.intro hzz0 (And.intro hzz1 hzz2)))
        clear hG HG1 hfl hg1 hg2 hi hzz0 hzz1 hzz2 hpl hGD
        go_enter Tryz.func25, Tryz.ntmps25
        go_wp2_with fail
        refine HG.out.mono ?_
        rintro e w4 ⟨rfl, h4⟩
        have HB4 := Lib.hid h4
        have k4 := cell_of_heap (HKEEP.out w4 h4).2.1 0
        clear h4 k1 k2 k3
        go_wp2_with fail
        refine (HG2.out w4 HB4.out).mono ?_
        rintro e w5 ⟨rfl, h5⟩
        have HB5 := Lib.hid (HB4.out.trans (h5.mono HB4.out.size))
        clear h5 k4
        go_wp2_with fail
        refine (HGD.out w5).mono ?_
        rintro e wc ⟨rfl, h6⟩
        have hbc := Lib.hid (HB5.out.trans (h6.mono HB5.out.size))
        clear h6
        obtain ⟨wd, hwd, hbd, _, _, _⟩ := new_obj2 wc #[] 41
        have q1 := cell_of_heap (HKEEP.out wd (hbc.out.trans (hbd.mono hbc.out.size))).1 0
        have HBD := Lib.hid (hbc.out.trans (hbd.mono hbc.out.size))
        have HO0 := Lib.hid (show wd.ownsRow w3.heap.size 41 2 (.slice (some ⟨wc.heap.size, 0, none⟩) 0 0) 0 [] from by rw [← hwd]; exact owns_base (owns_none2 wc _) hbc.out.size)
        have hsrc := (HR.out.below HBD.out).src (c := c) (fun e => by
          have := HS.out.nil e
          exact ⟨List.eq_nil_of_length_eq_zero this.1, this.2⟩)
        rw [← HN.out] at hsrc
        have HSRC := Lib.hid hsrc
        clear hbd hsrc
        go_wp2_with (first | (at_builtin; refine wpList_append_srcs rfl (.tmp 26) (.tmp 28) 22 22 rfl w3.heap.size 41 i0 _ 2 32 Tryz.underlying22 HI.out.1 HI.out.2.1 HI.out.2.2.1 HI.out.2.2.2 rfl (by decide) _ rfl 0 _ HO0.out _ rfl _ _ HSRC.out (by unfold maxLen; omega) (by omega) HBD.out.size ?_; intro a6 c6 w6 hown hgrow _ hblk; simp only [Nat.zero_add, List.nil_append] at hown; have HOWN := Lib.hid hown; have HB6 := Lib.hid (show Below w3.heap.size w3 w6 from ⟨hgrow.os.trans HBD.out.os, hgrow.tape.trans HBD.out.tape, hgrow.output.trans HBD.out.output, Nat.le_trans HBD.out.size hgrow.size, fun g hg => (hgrow.block g (Nat.lt_of_lt_of_le hg HBD.out.size) (fun e => by have h9 : g = wc.heap.size := Option.some.inj e; have := hbc.out.size; omega)).trans (HBD.out.block g hg)⟩); have q2 := cell_of_heap (HKEEP.out w6 HB6.out).2.1 0; clear hown hgrow hblk) | fail)
        clear q2
        go_loopw [8, 33] (fun y x wr => ∃ (k : Nat) (a8 : Option Addr) (c8 : Nat), y = .slice a8 (n + k) c8 ∧ x = .int .i64 k ∧ k ≤ m ∧ Hid (wr.ownsRow w3.heap.size 41 2 (.slice a8 (n + k) c8) (n + k) (pairsV (ts ++ (ss.take k).map (behF D.data.toList)))) ∧ Hid ((ss.take k).all (fun p => goodB (putBehind D.data.toList p.1)) = true) ∧ Hid (Below w3.heap.size w3 wr)) (fun _ x _ => m - (intOf x).toNat)
        case atStart => exact ⟨0, a6, c6, by simp, rfl, Nat.zero_le _, by rw [List.take_zero, List.map_nil, List.append_nil, Nat.add_zero]; exact HOWN.out, rfl, HB6⟩
        case round =>
          obtain ⟨k, a8, c8, rfl, rfl, hkm, hown, hall, hbr⟩ := hrel
          by_cases hlt : k < m
          · obtain ⟨p, hp⟩ : ∃ p, ss[k]? = some p := ⟨_, List.getElem?_eq_getElem (by rw [← HM.out]; exact hlt)⟩
            obtain ⟨rb, o, rfl, _, hcs⟩ := HR'.out.below hbr.out (fun e => by rw [e] at hp; cases hp)
            obtain ⟨p0, p1⟩ := hcs k p hp
            have hpg := (firstBad_none.1 HFL.out.2.1) p (List.mem_of_getElem? hp)
            have hps := good_short hpg.1
            obtain ⟨S1, hS1⟩ : ∃ S : ByteArray, S = ⟨p.1.toArray⟩ := ⟨_, rfl⟩
            obtain ⟨S2, hS2⟩ : ∃ S : ByteArray, S = ⟨p.2.toArray⟩ := ⟨_, rfl⟩
            have hS1z : S1.size ≤ 400000 := by rw [hS1, str_size]; omega
            have hS1d : S1.data.toList = p.1 := by rw [hS1]
            have hJ := fun W => rjoin_any D S1 W hD hS1z
            rw [hS1d, joinP_of HPL.out hpg.1] at hJ
            unfold strV at p0 p1
            rw [← hS1] at p0; rw [← hS2] at p1
            obtain ⟨w7, hw7, hb7, hfx, _, _⟩ := new_two wr (.string S1) (.string S2) 41
            have f0 := cell_of_heap hfx 0
            have HFX := Lib.hid hfx
            have HB7 := Lib.hid (hbr.out.trans (hb7.mono hbr.out.size))
            have HOWN7 := Lib.hid (ownsRow_keep hown.out (fun g hg => hb7.block g (owns_lt hown.out g hg)))
            have HP := Lib.hid hp; have HS2 := Lib.hid hS2
            clear hcs hfx hp hS1 hS2 hS1z hS1d hpg hps hb7
            cases hgo : goodB (putBehind D.data.toList p.1)
            · rw [hgo, if_neg (by simp)] at hJ
              have HJ := Lib.hid hJ
              have HE := Lib.hid (show mountT ts D.data.toList ss = (10, []) by
                unfold mountT
                rw [if_pos HGG.out, if_neg (fun h => by
                  have := List.all_eq_true.1 h.2 p (List.mem_of_getElem? HP.out)
                  rw [hgo] at this; cases this)])
              clear hJ hgo
              unfold strV at HJ
              go_wp2_with fail
              refine (HJ.out w7).mono ?_
              rintro e w8 ⟨rfl, h8⟩
              have HB8 := Lib.hid (HB7.out.trans (h8.mono HB7.out.size))
              have hq := (HKEEP.out w8 HB8.out).2.2
              have q0 := cell_of_heap hq 0
              have qf := frozen_of_heap hq
              clear h8 hq f0
              go_wp2_with fail
              refine bodyPost_ret (v := .tuple #[.agg #[.slice none 0 0], .int .i64 10]) (by simp [results, Tryz.results25, go_sem, q0]) rfl ?_
              exact HOUT.out _ _ (HX.out.trans HE.out) HB8.out _
            · rw [hgo, if_pos rfl] at hJ
              obtain ⟨P, hP⟩ : ∃ P : ByteArray, P = ⟨(putBehind D.data.toList p.1).toArray⟩ := ⟨_, rfl⟩
              dsimp only at hJ
              unfold strV at hJ
              rw [← hP] at hJ
              have HJ := Lib.hid hJ; have HP2 := Lib.hid hP; have HGO := Lib.hid hgo
              clear hJ hgo hP
              go_wp2_with fail
              refine (HJ.out w7).mono ?_
              rintro e w8 ⟨rfl, h8⟩
              have HB8 := Lib.hid (HB7.out.trans (h8.mono HB7.out.size))
              have f1 := cell_of_heap ((h8.block _ (lt_of_heap HFX.out)).trans HFX.out) 1
              have hsrc := pr_src (heap_alloc_new w8 (.cells #[.string P, .string S2] 41)) rfl rfl
              have HSRC := Lib.hid hsrc
              have HO9 := Lib.hid (ownsRow_keep HOWN7.out (w' := w8.alloc (.cells #[.string P, .string S2] 41)) (fun g hg => (Below.heap_alloc w8 _ g (by have := owns_lt HOWN7.out g hg; have := h8.size; omega)).trans (h8.block g (owns_lt HOWN7.out g hg))))
              have HZ9 := Lib.hid (show w3.heap.size ≤ (w8.alloc (.cells #[.string P, .string S2] 41)).heap.size from by have := HB8.out.size; simp; omega)
              clear h8 f0 hsrc
              go_wp2_with (first | (at_builtin; refine wpList_append_srcs rfl (.tmp 48) (.tmp 53) 22 22 rfl w3.heap.size 41 i0 _ 2 32 Tryz.underlying22 HI.out.1 HI.out.2.1 HI.out.2.2.1 HI.out.2.2.2 rfl (by decide) _ rfl (n + k) _ HO9.out _ rfl _ _ HSRC.out (by unfold maxLen; omega) (by omega) HZ9.out ?_; intro a' c' w9 hown9 hgrow _ hblk; have HNEXT := Lib.hid hown9; have HGROW := Lib.hid hgrow; clear hown9 hgrow hblk) | fail)
              go_roundw
              case rel => exact ⟨k + 1, a', c', rfl, by go_num, hlt, by rw [show (n + (k + 1)) = n + k + 1 by omega]; exact mount_next HNEXT.out HP.out HP2.out HS2.out, any_ok hall.out HP.out HGO.out, grow_below (n := 0) HB8.out HGROW.out (fun g hg => owns_ge HO9.out g hg)⟩
              case measure => simp [intOf]; omega
          · obtain rfl : k = m := by omega
            have hall2 : ss.all (fun p => goodB (putBehind D.data.toList p.1)) = true := by
              have := hall.out
              rwa [List.take_of_length_le (by rw [← HM.out]; exact Nat.le_refl _)] at this
            have hE : mountT ts D.data.toList ss = makeT (ts ++ ss.map (behF D.data.toList)) := by
              unfold mountT
              rw [if_pos HGG.out, if_pos ⟨HPL.out, hall2⟩]
            have ho := hown.out
            rw [List.take_of_length_le (by rw [← HM.out]; exact Nat.le_refl _)] at ho
            obtain ⟨L, hL⟩ : ∃ L, L = ts ++ ss.map (behF D.data.toList) := ⟨_, rfl⟩
            rw [← hL] at ho hE
            have hlen : n + k = L.length := by rw [hL, List.length_append, List.length_map, ← HN.out, ← HM.out]
            have hrow := owns_rowAt (show OwnFl wr w3.heap.size a8 c8 L by unfold OwnFl; rw [← hlen]; exact ho)
            have hM := rmake_any wr a8 c8 L hrow.rd (by omega) (fun p hp => by
              rw [hL] at hp
              rcases List.mem_append.1 hp with h | h
              · have := good_short ((firstBad_none.1 (goodT_files HGG.out.1).2.1) p h).1
                omega
              · obtain ⟨q, hq, rfl⟩ := List.mem_map.1 h
                have := good_short (List.all_eq_true.1 hall2 q hq)
                show (putBehind D.data.toList q.1).length ≤ _
                omega)
            rw [← hlen, ← hE, ← HX.out] at hM
            obtain ⟨x, qs⟩ := X
            obtain ⟨q, hq⟩ : ∃ q, q = qs.length := ⟨_, rfl⟩
            unfold MakeTo at hM HOUT ⊢
            dsimp only at hM ⊢
            rw [← hq] at hM ⊢
            have HMK := Lib.hid hM; have HQ := Lib.hid hq
            clear hM hrow hlen ho hL hE hall2 hown hall HOUT hq
            go_wp2_with fail
            refine HMK.out.mono ?_
            rintro e w7 ⟨a7, c7, rfl, hrow, hb7⟩
            have HB7 := Lib.hid (hbr.out.trans (hb7.mono hbr.out.size))
            have hq := (HKEEP.out w7 HB7.out).2.2
            have q0 := cell_of_heap hq 0
            have qf := frozen_of_heap hq
            have hfin : ∀ v, RowAt (w7.setCell ⟨b, 0, none⟩ v) w.heap.size a7 c7 qs ∧ Below w.heap.size w (w7.setCell ⟨b, 0, none⟩ v) := by
              intro v
              obtain ⟨z1, z2, z3, z4, z5⟩ := HSIZE.out
              have z6 := hbr.out.size
              exact ⟨(hrow.keep (fun g hg _ => Below.heap_setCell _ _ _ _ (by simp; omega))).base (by omega), (HB.out.trans (HB7.out.mono z4)).setCell (p := ⟨b, 0, none⟩) z5 v⟩
            have HFIN := Lib.hid hfin
            clear hrow hb7 hq hfin
            go_wp2_with fail
            refine bodyPost_ret (v := .tuple #[.agg #[.slice a7 q c7], .int .i64 x]) (by simp [results, Tryz.results25, go_sem, q0]) rfl ?_
            exact ⟨a7, c7, by rw [show q = qs.length from HQ.out], (HFIN.out _).1, (HFIN.out _).2⟩
end Go.Proofs.YtjcimajkjnjdpaaGreatDoor
