/- DERIVED. The reference's Make, walked. (Printed by rmakegen.py.) -/
import Derived.Test.YtjcimajkjnjdpabGreatDoorTreeRefA
namespace Go.Proofs.YtjcimajkjnjdpabGreatDoor
open Go.RowKit
set_option linter.unusedVariables false

theorem filter_next {T : List Pr} {j : Nat} {g : Pr} {P : Pr → Bool} (h : T[j]? = some g) : (T.take (j + 1)).filter P = (T.take j).filter P ++ (if P g = true then [g] else []) := by
  rw [List.take_add_one, h, List.filter_append]
  congr 1
  show [g].filter P = _
  rw [List.filter_cons]
  split <;> rfl
theorem ne_next {T : List Pr} {j : Nat} {g : Pr} {k : List UInt8} (h : ∀ x ∈ T.take j, x.1 ≠ k) (hg : T[j]? = some g) (hk : g.1 ≠ k) : ∀ x ∈ T.take (j + 1), x.1 ≠ k := by
  intro x hx
  rw [List.take_add_one, hg] at hx
  rcases List.mem_append.1 hx with hx | hx
  · exact h x hx
  · simp at hx; subst hx; exact hk
theorem pair_own {w : World} {base : Nat} {v : Value} {n : Nat} {L : List Pr} {g : Pr} {P S : ByteArray} (h : w.ownsRow base 35 2 v n (pairsV L ++ [.string P, .string S])) (hP : P = ⟨g.1.toArray⟩) (hS : S = ⟨g.2.toArray⟩) : w.ownsRow base 35 2 v n (pairsV (L ++ [g])) := by
  have e : pairsV (L ++ [g]) = pairsV L ++ [.string P, .string S] := by rw [pairsV_append]; subst hP; subst hS; rfl
  rw [e]; exact h
set_option maxRecDepth 100000 in
set_option maxHeartbeats 16000000 in
theorem rmake_any (w : World) (a : Option Addr) (c : Nat) (ps : List Pr) (hr : RdFl w a ps) (hl : ps.length ≤ 1000000) (hsz : ∀ p ∈ ps, p.1.length ≤ 400000) :
    Calls Tryz.prog 39 #[.slice a ps.length c] w (MakeTo w (makeT ps)) := by
  obtain ⟨w1, hw1, hb1, hx1, hz1, hz2⟩ := new_cell w (.slice none 0 0) 24
  obtain ⟨b, hbe⟩ : ∃ b, w.heap.size = b := ⟨_, rfl⟩
  have HWB := Lib.hid hbe
  rw [hbe] at hx1 hz1 hz2
  have b0 := cell_of_heap hx1 0
  have bf := frozen_of_heap hx1
  obtain ⟨n, hnn⟩ : ∃ n, n = ps.length := ⟨_, rfl⟩
  have hout : ∀ x W, makeT ps = (x, []) → Below b w1 W → ∀ v, MakeTo w (makeT ps) (.returned (.tuple #[.agg #[.slice none 0 0], .int .i64 x])) (W.setCell ⟨b, 0, none⟩ v) := by
    intro x W hx hW v
    rw [hx]
    exact makeTo_err w _ x (hb1.trans (by rw [hbe]; exact hW.setCell (p := ⟨b, 0, none⟩) (Nat.le_refl _) v))
  by_cases hbig : 32 < n
  · have hfin : ∀ v, MakeTo w (makeT ps) (.returned (.tuple #[.agg #[.slice none 0 0], .int .i64 13])) (w1.setCell ⟨b, 0, none⟩ v) := hout _ _ (makeT_many (by rw [← hnn]; exact hbig)) (Below.refl _ _)
    rw [← hnn]
    have HFIN := Lib.hid hfin
    clear hfin hout hnn hl hsz hb1 hx1 hz1 hz2 hr
    go_enter Tryz.func39, Tryz.ntmps39
    go_wp2_with fail
    refine bodyPost_ret (v := .tuple #[.agg #[.slice none 0 0], .int .i64 13]) (by simp [results, Tryz.results39, go_sem, b0]) rfl ?_
    exact HFIN.out _
  · rw [← hnn]
    have hn32 : n ≤ 32 := by omega
    have hkeep : ∀ W, Below w1.heap.size w1 W → W.heap[b]? = some (.cells #[.slice none 0 0] 24 (0, 0)) := fun W h => (h.block b (by omega)).trans hx1
    have hout2 : ∀ x W, makeT ps = (x, []) → Below w1.heap.size w1 W → ∀ v, MakeTo w (makeT ps) (.returned (.tuple #[.agg #[.slice none 0 0], .int .i64 x])) (W.setCell ⟨b, 0, none⟩ v) := fun x W hx hW => hout x W hx (hW.mono (by omega))
    have HR := Lib.hid (hr.below hb1); have HN := Lib.hid hnn; have HOUT := Lib.hid hout2; have HSZ := Lib.hid hsz; have HB1 := Lib.hid hb1; have HZ := Lib.hid (And.intro hz1 hz2)
    have HKEEP := Lib.hid hkeep
    obtain ⟨i0, hi, hzz0, hzz1, hzz2⟩ := info_three infoFile
    have HI := Lib.hid (And.intro hi (And.intro hzz0 (And.intro hzz1 hzz2)))
    clear hr hnn hout hout2 hsz hb1 hx1 hz1 hz2 hbig hl hkeep b0 bf hi hzz0 hzz1 hzz2
    go_enter Tryz.func39, Tryz.ntmps39
    go_wp2_with fail
    go_loopw [24] (fun x wr => ∃ k : Nat, x = .int .i64 k ∧ k ≤ n ∧ Hid (firstBad (ps.take k) = none) ∧ Hid (Below w1.heap.size w1 wr)) (fun x _ => n - (intOf x).toNat)
    case atStart => exact ⟨0, rfl, Nat.zero_le _, rfl, Below.refl _ _⟩
    case round =>
      obtain ⟨k, rfl, hkn, hfb, hbw⟩ := hrel
      by_cases hlt : k < n
      · obtain ⟨p, hp⟩ : ∃ p, ps[k]? = some p := ⟨_, List.getElem?_eq_getElem (by rw [← HN.out]; exact hlt)⟩
        obtain ⟨rb, o, rfl, _, hcs⟩ := HR.out.below hbw.out (fun e => by rw [e] at hp; cases hp)
        obtain ⟨p0, p1⟩ := hcs k p hp
        have hpl := HSZ.out p (List.mem_of_getElem? hp)
        have hG := fun W => rgood_any ⟨p.1.toArray⟩ W (by rw [str_size]; omega)
        dsimp only at hG
        obtain ⟨S1, hS1⟩ : ∃ S : ByteArray, S = ⟨p.1.toArray⟩ := ⟨_, rfl⟩
        obtain ⟨S2, hS2⟩ : ∃ S : ByteArray, S = ⟨p.2.toArray⟩ := ⟨_, rfl⟩
        have hz : S2.size = p.2.length := by rw [hS2, str_size]
        unfold strV at p0 p1
        rw [← hS1] at hG p0; rw [← hS2] at p1
        obtain ⟨w2, hw2, hb2, hfx, _, _⟩ := new_two wr (.string S1) (.string S2) 35
        have f0 := cell_of_heap hfx 0
        have HF2 := Lib.hid hfx
        have HB2 := Lib.hid (hbw.out.trans (hb2.mono hbw.out.size))
        have hat := firstBad_at hfb.out hp
        have hnx := fun h1 h2 => firstBad_take hfb.out hp h1 h2
        clear hcs hfx
        cases hgood : goodB p.1
        · rw [hgood] at hat hG
          have HE := Lib.hid (makeT_bad (by rw [← HN.out]; exact hn32) (hat.trans (if_pos rfl)))
          have HG := Lib.hid hG
          clear hG hat hnx hp hS1 hS2 hz hb2 hgood
          go_wp2_with fail
          refine (HG.out _).mono ?_
          rintro e w3 ⟨rfl, h3⟩
          have HB3 := Lib.hid (HB2.out.trans (h3.mono HB2.out.size))
          have hbq := HKEEP.out _ HB3.out
          have b0 := cell_of_heap hbq 0
          have bf := frozen_of_heap hbq
          clear h3 hbq f0
          go_wp2_with fail
          refine bodyPost_ret (v := .tuple #[.agg #[.slice none 0 0], .int .i64 10]) (by simp [results, Tryz.results39, go_sem, b0]) rfl ?_
          exact HOUT.out _ _ HE.out HB3.out _
        · rw [hgood, if_neg (by simp)] at hat
          rw [hgood] at hG
          by_cases hbd : 2048 < S2.size
          · have HE := Lib.hid (makeT_bad (by rw [← HN.out]; exact hn32) (hat.trans (if_pos (by omega))))
            have HG := Lib.hid hG
            clear hG hat hnx hp hS1 hS2 hz hb2 hgood
            go_wp2_with fail
            refine (HG.out _).mono ?_
            rintro e w3 ⟨rfl, h3⟩
            have HB3 := Lib.hid (HB2.out.trans (h3.mono HB2.out.size))
            have hbq := HKEEP.out _ HB3.out
            have hfq := (h3.block _ (lt_of_heap HF2.out)).trans HF2.out
            have f1 := cell_of_heap hfq 1
            have b0 := cell_of_heap hbq 0
            have bf := frozen_of_heap hbq
            clear h3 hbq f0 hfq
            go_wp2_with fail
            refine bodyPost_ret (v := .tuple #[.agg #[.slice none 0 0], .int .i64 3]) (by simp [results, Tryz.results39, go_sem, b0]) rfl ?_
            exact HOUT.out _ _ HE.out HB3.out _
          · have HX := Lib.hid (hnx hgood (by omega))
            have HG := Lib.hid hG
            clear hG hat hnx hp hS1 hS2 hz hb2 hgood
            go_wp2_with fail
            refine (HG.out _).mono ?_
            rintro e w3 ⟨rfl, h3⟩
            have HB3 := Lib.hid (HB2.out.trans (h3.mono HB2.out.size))
            have hfq := (h3.block _ (lt_of_heap HF2.out)).trans HF2.out
            have f1 := cell_of_heap hfq 1
            clear h3 f0 hfq
            go_wp2_with fail
            go_roundw
            case rel => exact ⟨k + 1, by go_num, hlt, HX, HB3⟩
            case measure => simp [intOf]; omega
      · have hfb2 : firstBad ps = none := by
          have := hfb.out
          rwa [List.take_of_length_le (by rw [← HN.out]; omega)] at this
        have HNB := Lib.hid hfb2
        obtain ⟨w5, hw5⟩ : ∃ W, W = wr := ⟨_, rfl⟩
        rw [← hw5] at hbw ⊢
        obtain ⟨w2, hw2, hb2, hx2, hz3, hz4⟩ := new_cell w5 (.slice none 0 0) 24
        obtain ⟨BT, hbt⟩ : ∃ b, w5.heap.size = b := ⟨_, rfl⟩
        rw [hbt] at hx2 hz3 hz4
        have HB12 := Lib.hid (hbw.out.trans (hb2.mono hbw.out.size))
        have HZT := Lib.hid (show w1.heap.size ≤ BT ∧ BT < w2.heap.size ∧ b < w1.heap.size from by have := hbw.out.size; have := HZ.out.1; omega)
        have HXT := Lib.hid hx2; have HW2 := Lib.hid hw2
        clear hfb2 hfb hw5 hbw hb2 hx2 hz3 hz4 hw2
        go_wp2_with fail
        rw [HW2.out]
        go_loopw [42] (fun x wr => ∃ (k : Nat) (T : List Pr) (aT : Option Addr) (cT : Nat), x = .int .i64 k ∧ k ≤ n ∧ Hid (T = sortT (ps.take k)) ∧ Hid (((ps.take k).map Prod.fst).Nodup) ∧ Hid (T.length = k) ∧ Hid (wr.heap[BT]? = some (.cells #[.slice aT k cT] 24 (0, 0))) ∧ Hid (RowAt wr w2.heap.size aT cT T) ∧ Hid (Ch [BT] w2 wr)) (fun x _ => n - (intOf x).toNat)
        case atStart => exact ⟨0, [], none, 0, rfl, Nat.zero_le _, rfl, List.nodup_nil, rfl, HXT.out, .inl ⟨rfl, rfl, rfl⟩, Ch.refl _ _⟩
        case round =>
          obtain ⟨k, T, aT, cT, rfl, hkn, hT, hnd, hTl, hTc, hTr, hch⟩ := hrel
          have HBR := Lib.hid (HB12.out.trans (below_of_ch hch.out (by intro x hx; rw [show x = BT from by simpa using hx]; exact HZT.out.1) HB12.out.size))
          by_cases hlt : k < n
          · obtain ⟨f, hf⟩ : ∃ p, ps[k]? = some p := ⟨_, List.getElem?_eq_getElem (by rw [← HN.out]; exact hlt)⟩
            obtain ⟨rb, o, rfl, _, hcs⟩ := HR.out.below HBR.out (fun e => by rw [e] at hf; cases hf)
            obtain ⟨p0, p1⟩ := hcs k f hf
            obtain ⟨S1, hS1⟩ : ∃ S : ByteArray, S = ⟨f.1.toArray⟩ := ⟨_, rfl⟩
            obtain ⟨S2, hS2⟩ : ∃ S : ByteArray, S = ⟨f.2.toArray⟩ := ⟨_, rfl⟩
            unfold strV at p0 p1
            rw [← hS1] at p0; rw [← hS2] at p1
            obtain ⟨w6, hw6, hb6, hfx, hz7, hz8⟩ := new_two wr (.string S1) (.string S2) 35
            obtain ⟨BF, hbf⟩ : ∃ b, wr.heap.size = b := ⟨_, rfl⟩
            rw [hbf] at hfx
            have hTc6 := (hb6.block _ (lt_of_heap hTc.out)).trans hTc.out
            have t0 := cell_of_heap hTc6 0
            have HFX := Lib.hid hfx; have HTC6 := Lib.hid hTc6
            have HF := Lib.hid hf; have HS := Lib.hid (And.intro hS1 hS2)
            have HTR6 := Lib.hid (hTr.out.below hb6); have HCH6 := Lib.hid (hch.out.trans (Ch.of_below hb6 []) (by simp)); have HB6 := Lib.hid (HBR.out.trans (hb6.mono HBR.out.size))
            have HW6 := Lib.hid (show w2.heap.size ≤ w6.heap.size from by have := hch.out.size; have := hb6.size; omega)
            clear hcs hf hS1 hS2 hfx hz7 hz8 hb6 hTc6 hTc hTr hch HBR
            go_wp2_with fail
            clear t0 p0 p1
            go_loopw [9, 49] (fun y x wv => ∃ (j m9 : Nat) (a9 : Option Addr) (c9 : Nat), x = .int .i64 j ∧ y = .slice a9 m9 c9 ∧ j ≤ k ∧ m9 ≤ j ∧ Hid (m9 = ((T.take j).filter (fun g => Op.bytesLess g.1 f.1)).length) ∧ Hid (wv.ownsRow w6.heap.size 35 2 (.slice a9 m9 c9) m9 (pairsV ((T.take j).filter (fun g => Op.bytesLess g.1 f.1)))) ∧ Hid (Below w6.heap.size w6 wv)) (fun _ x _ => k - (intOf x).toNat)
            case atStart => exact ⟨0, 0, none, 0, rfl, rfl, Nat.zero_le _, Nat.le_refl _, rfl, World.ownsRow_nil _ _ _ _, Below.refl _ _⟩
            case round =>
              obtain ⟨j, m9, a9, c9, rfl, rfl, hjk, hmj, hm9, hown, hbv⟩ := hrel
              by_cases hlt2 : j < k
              · obtain ⟨g, hg⟩ : ∃ p, T[j]? = some p := ⟨_, List.getElem?_eq_getElem (by rw [hTl.out]; exact hlt2)⟩
                obtain ⟨tb, tq, rfl, _, hcg⟩ := (HTR6.out.below hbv.out).rd (fun e => by rw [e] at hg; cases hg)
                obtain ⟨g0, g1⟩ := hcg j g hg
                obtain ⟨G1, hG1⟩ : ∃ S : ByteArray, S = ⟨g.1.toArray⟩ := ⟨_, rfl⟩
                obtain ⟨G2, hG2⟩ : ∃ S : ByteArray, S = ⟨g.2.toArray⟩ := ⟨_, rfl⟩
                unfold strV at g0 g1
                rw [← hG1] at g0; rw [← hG2] at g1
                obtain ⟨w7, hw7, hb7, hgx, hz7, hz8⟩ := new_two wr (.string G1) (.string G2) 35
                have v0 := cell_of_heap hgx 0
                have v1 := cell_of_heap hgx 1
                have hb67 := hbv.out.trans (hb7.mono hbv.out.size)
                have f0 := cell_of_heap ((hb67.block _ (lt_of_heap HFX.out)).trans HFX.out) 0
                have HGX := Lib.hid hgx; have HB67 := Lib.hid hb67; have HGG := Lib.hid hg; have HGS := Lib.hid (And.intro hG1 hG2)
                have hnx := filter_next (P := fun g => Op.bytesLess g.1 f.1) hg
                cases hls : Op.bytesLess g.1 f.1
                · have hl1 : Op.bytesLess G1.toList S1.toList = false := by rw [Lib.toList_data, Lib.toList_data, hG1, HS.out.1]; exact hls
                  have hl2 : Op.bytesLess G1.data.toList S1.data.toList = false := by rw [hG1, HS.out.1]; exact hls
                  rw [hls, if_neg (by simp), List.append_nil] at hnx
                  have HNX := Lib.hid hnx
                  have HO7 := Lib.hid (ownsRow_keep hown.out (w' := w7) (fun x hx => hb7.block x (owns_lt hown.out x hx)))
                  clear hcg hg hG1 hG2 hgx hb7 hb67 hz7 hz8 hnx hls
                  go_wp2_with fail
                  go_roundw
                  case rel => exact ⟨j + 1, m9, a9, c9, by go_num, rfl, hlt2, by omega, by rw [HNX.out]; exact hm9.out, by rw [HNX.out]; exact HO7.out, HB67⟩
                  case measure => simp [intOf]; omega
                · have hl1 : Op.bytesLess G1.toList S1.toList = true := by rw [Lib.toList_data, Lib.toList_data, hG1, HS.out.1]; exact hls
                  have hl2 : Op.bytesLess G1.data.toList S1.data.toList = true := by rw [hG1, HS.out.1]; exact hls
                  rw [hls, if_pos rfl] at hnx
                  have HNX := Lib.hid hnx
                  have HO7 := Lib.hid (ownsRow_keep hown.out (w' := w7.alloc (.cells #[.string G1, .string G2] 35)) (fun x hx => (Below.heap_alloc w7 _ x (by have := owns_lt hown.out x hx; omega)).trans (hb7.block x (owns_lt hown.out x hx))))
                  have HZ7 := Lib.hid (show w6.heap.size ≤ (w7.alloc (.cells #[.string G1, .string G2] 35)).heap.size from by have := hb67.size; simp; omega)
                  have HSR := Lib.hid (pr_src (heap_alloc_new w7 (.cells #[.string G1, .string G2] 35)) rfl rfl)
                  clear hcg hg hG1 hG2 hgx hb7 hb67 hz7 hz8 hnx hls
                  go_wp2_with (first | (at_builtin; refine wpList_append_srcs rfl (.tmp 58) (.tmp 60) 22 22 rfl w6.heap.size 35 i0 _ 2 32 Tryz.underlying22 HI.out.1 HI.out.2.1 HI.out.2.2.1 HI.out.2.2.2 rfl (by decide) _ rfl m9 _ HO7.out _ rfl _ _ HSR.out (by unfold maxLen; omega) (by omega) HZ7.out ?_; intro a' c' w9 hown9 hgrow _ hblk; have HNEXT := Lib.hid hown9; have HGROW := Lib.hid hgrow; clear hown9 hgrow hblk) | fail)
                  go_roundw
                  case rel => exact ⟨j + 1, m9 + 1, a', c', by go_num, rfl, hlt2, by omega, by rw [HNX.out, List.length_append, ← hm9.out]; rfl, by rw [HNX.out]; exact pair_own HNEXT.out HGS.out.1 HGS.out.2, grow_below (n := 0) HB67.out HGROW.out (fun x hx => owns_ge HO7.out x hx)⟩
                  case measure => simp [intOf]; omega
              · obtain rfl : j = k := by omega
                have hown2 := hown.out
                rw [List.take_of_length_le (by rw [hTl.out]; exact Nat.le_refl _)] at hown2
                have hm92 := hm9.out
                rw [List.take_of_length_le (by rw [hTl.out]; exact Nat.le_refl _)] at hm92
                obtain ⟨w8, hw8⟩ : ∃ W, W = wr := ⟨_, rfl⟩
                rw [← hw8] at hbv hown2 ⊢
                have hfc := (hbv.out.block _ (lt_of_heap HFX.out)).trans HFX.out
                have f0 := cell_of_heap hfc 0
                have f1 := cell_of_heap hfc 1
                have HO8 := Lib.hid (ownsRow_keep hown2 (w' := w8.alloc (.cells #[.string S1, .string S2] 35)) (fun x hx => (Below.heap_alloc w8 _ x (owns_lt hown2 x hx))))
                have HZ8 := Lib.hid (show w6.heap.size ≤ (w8.alloc (.cells #[.string S1, .string S2] 35)).heap.size from by have := hbv.out.size; simp; omega)
                have HSR := Lib.hid (pr_src (heap_alloc_new w8 (.cells #[.string S1, .string S2] 35)) rfl rfl)
                have HM9 := Lib.hid hm92
                have HBV := hbv
                clear hown hown2 hfc hm9 hm92 hbv hw8
                go_wp2_with (first | (at_builtin; refine wpList_append_srcs rfl (.tmp 63) (.tmp 65) 22 22 rfl w6.heap.size 35 i0 _ 2 32 Tryz.underlying22 HI.out.1 HI.out.2.1 HI.out.2.2.1 HI.out.2.2.2 rfl (by decide) _ rfl m9 _ HO8.out _ rfl _ _ HSR.out (by unfold maxLen; omega) (by omega) HZ8.out ?_; intro a' c' w9 hown9 hgrow _ hblk; have HNEXT := Lib.hid hown9; have HGROW := Lib.hid hgrow; clear hown9 hgrow hblk; have HB9 := Lib.hid (grow_below (n := 0) HBV.out HGROW.out (fun x hx => owns_ge HO8.out x hx)); have t0 := cell_of_heap ((HB9.out.block _ (lt_of_heap HTC6.out)).trans HTC6.out) 0) | fail)
                have HO9 := Lib.hid (pair_own HNEXT.out HS.out.1 HS.out.2)
                clear HNEXT HGROW HSR HO8 HZ8 HBV f0 f1 t0
                have HT3 := Lib.hid (show ∀ W, Below w9.heap.size w9 W → Below w6.heap.size w6 W from fun W h => HB9.out.trans (h.mono HB9.out.size))
                obtain ⟨L0, hL0⟩ : ∃ L, L = T.filter (fun g => Op.bytesLess g.1 f.1) ++ [f] := ⟨_, rfl⟩
                rw [← hL0] at HO9
                have hm10 : m9 + 1 = L0.length := by rw [hL0, List.length_append, ← HM9.out]; rfl
                have HL0 := Lib.hid hL0; have HM10 := Lib.hid hm10
                clear hL0 hm10
                go_loopw [9, 70] (fun y x wv => ∃ (i q9 : Nat) (a9 : Option Addr) (c9 : Nat), x = .int .i64 i ∧ y = .slice a9 q9 c9 ∧ i ≤ j ∧ q9 ≤ m9 + 1 + i ∧ Hid (q9 = (L0 ++ (T.take i).filter (fun g => Op.bytesLess f.1 g.1)).length) ∧ Hid (wv.ownsRow w6.heap.size 35 2 (.slice a9 q9 c9) q9 (pairsV (L0 ++ (T.take i).filter (fun g => Op.bytesLess f.1 g.1)))) ∧ Hid (∀ x ∈ T.take i, x.1 ≠ f.1) ∧ Hid (Below w6.heap.size w6 wv)) (fun _ x _ => j - (intOf x).toNat)
                case atStart => exact ⟨0, m9 + 1, a', c', rfl, rfl, Nat.zero_le _, by omega, by rw [List.take_zero]; show m9 + 1 = (L0 ++ []).length; rw [List.append_nil]; exact HM10.out, by rw [List.take_zero]; show World.ownsRow _ _ _ _ _ _ (pairsV (L0 ++ [])); rw [List.append_nil]; exact HO9.out, (fun x hx => by cases hx), HB9⟩
                case round =>
                  obtain ⟨i, q9, a10, c10, rfl, rfl, hij, hqi, hq9, hown, hne, hbv⟩ := hrel
                  by_cases hlt3 : i < j
                  · obtain ⟨g, hg⟩ : ∃ p, T[i]? = some p := ⟨_, List.getElem?_eq_getElem (by rw [hTl.out]; exact hlt3)⟩
                    obtain ⟨tb, tq, rfl, _, hcg⟩ := (HTR6.out.below hbv.out).rd (fun e => by rw [e] at hg; cases hg)
                    obtain ⟨g0, g1⟩ := hcg i g hg
                    obtain ⟨G1, hG1⟩ : ∃ S : ByteArray, S = ⟨g.1.toArray⟩ := ⟨_, rfl⟩
                    obtain ⟨G2, hG2⟩ : ∃ S : ByteArray, S = ⟨g.2.toArray⟩ := ⟨_, rfl⟩
                    unfold strV at g0 g1
                    rw [← hG1] at g0; rw [← hG2] at g1
                    obtain ⟨w7, hw7, hb7, hgx, hz7, hz8⟩ := new_two wr (.string G1) (.string G2) 35
                    have v0 := cell_of_heap hgx 0
                    have v1 := cell_of_heap hgx 1
                    have hb67 := hbv.out.trans (hb7.mono hbv.out.size)
                    have f0 := cell_of_heap ((hb67.block _ (lt_of_heap HFX.out)).trans HFX.out) 0
                    have HB67 := Lib.hid hb67; have HGG := Lib.hid hg; have HGS := Lib.hid (And.intro hG1 hG2)
                    have hnx := filter_next (P := fun g => Op.bytesLess f.1 g.1) hg
                    have heq : (G1.toList == S1.toList) = decide (g.1 = f.1) := by
                      rw [Lib.toList_data, Lib.toList_data, hG1, HS.out.1, Bool.eq_iff_iff, beq_iff_eq, decide_eq_true_iff]
                    by_cases hsame : g.1 = f.1
                    · have heq2 : (G1.toList == S1.toList) = true := by rw [heq]; simpa using hsame
                      have HE := Lib.hid (makeT_twice (by rw [← HN.out]; exact hn32) HNB.out (show twiceB ps = true by
                        cases ht : twiceB ps
                        · exfalso
                          have hgp : g ∈ ps.take j := ((sortT_is _ hnd.out).2.1 g).1 (by rw [← hT.out]; exact List.mem_of_getElem? hg)
                          obtain ⟨l, hl⟩ := List.getElem?_of_mem hgp
                          rw [List.getElem?_take] at hl
                          split at hl
                          · rename_i hlj
                            have h1 := (List.pairwise_iff_getElem.1 (List.pairwise_map.1 (twice_false.1 ht)))
                            obtain ⟨l1, e1⟩ := List.getElem?_eq_some_iff.1 hl
                            obtain ⟨l2, e2⟩ := List.getElem?_eq_some_iff.1 HF.out
                            have := h1 l j l1 l2 hlj
                            rw [e1, e2] at this
                            exact this hsame
                          · cases hl
                        · rfl))
                      have HB17 := Lib.hid (HB6.out.trans (hb67.mono HB6.out.size))
                      have hbq := HKEEP.out _ HB17.out
                      have b0 := cell_of_heap hbq 0
                      have bf := frozen_of_heap hbq
                      clear hcg hg hG1 hG2 hgx hb7 hb67 hz7 hz8 hnx heq hbq
                      go_wp2_with fail
                      refine bodyPost_ret (v := .tuple #[.agg #[.slice none 0 0], .int .i64 11]) (by simp [results, Tryz.results39, go_sem, b0]) rfl ?_
                      exact HOUT.out _ _ HE.out HB17.out _
                    · have heq2 : (G1.toList == S1.toList) = false := by rw [heq]; simpa using hsame
                      have HNE := Lib.hid (ne_next hne.out hg hsame)
                      cases hls : Op.bytesLess f.1 g.1
                      · have hls2 : Op.bytesLess g.1 f.1 = true := by
                          cases h : Op.bytesLess g.1 f.1
                          · exact absurd (less_total _ _ h hls) hsame
                          · rfl
                        have hl1 : Op.bytesLess G1.toList S1.toList = true := by rw [Lib.toList_data, Lib.toList_data, hG1, HS.out.1]; exact hls2
                        have hl2 : Op.bytesLess G1.data.toList S1.data.toList = true := by rw [hG1, HS.out.1]; exact hls2
                        rw [hls, if_neg (by simp), List.append_nil] at hnx
                        have HNX := Lib.hid hnx
                        have HO7 := Lib.hid (ownsRow_keep hown.out (w' := w7) (fun x hx => hb7.block x (owns_lt hown.out x hx)))
                        clear hcg hg hG1 hG2 hgx hb7 hb67 hz7 hz8 hnx hls hls2 heq
                        go_wp2_with fail
                        go_roundw
                        case rel => exact ⟨i + 1, q9, a10, c10, by go_num, rfl, hlt3, by omega, by rw [HNX.out]; exact hq9.out, by rw [HNX.out]; exact HO7.out, HNE, HB67⟩
                        case measure => simp [intOf]; omega
                      · have hls2 := less_asymm _ _ hls
                        have hl1 : Op.bytesLess G1.toList S1.toList = false := by rw [Lib.toList_data, Lib.toList_data, hG1, HS.out.1]; exact hls2
                        have hl2 : Op.bytesLess G1.data.toList S1.data.toList = false := by rw [hG1, HS.out.1]; exact hls2
                        rw [hls, if_pos rfl] at hnx
                        have HNX := Lib.hid hnx
                        have HO7 := Lib.hid (ownsRow_keep hown.out (w' := w7.alloc (.cells #[.string G1, .string G2] 35)) (fun x hx => (Below.heap_alloc w7 _ x (by have := owns_lt hown.out x hx; omega)).trans (hb7.block x (owns_lt hown.out x hx))))
                        have HZ7 := Lib.hid (show w6.heap.size ≤ (w7.alloc (.cells #[.string G1, .string G2] 35)).heap.size from by have := hb67.size; simp; omega)
                        have HSR := Lib.hid (pr_src (heap_alloc_new w7 (.cells #[.string G1, .string G2] 35)) rfl rfl)
                        clear hcg hg hG1 hG2 hgx hb7 hb67 hz7 hz8 hnx hls hls2 heq
                        go_wp2_with (first | (at_builtin; refine wpList_append_srcs rfl (.tmp 85) (.tmp 87) 22 22 rfl w6.heap.size 35 i0 _ 2 32 Tryz.underlying22 HI.out.1 HI.out.2.1 HI.out.2.2.1 HI.out.2.2.2 rfl (by decide) _ rfl q9 _ HO7.out _ rfl _ _ HSR.out (by unfold maxLen; omega) (by omega) HZ7.out ?_; intro a' c' w9 hown9 hgrow _ hblk; have HNEXT := Lib.hid hown9; have HGROW := Lib.hid hgrow; clear hown9 hgrow hblk) | fail)
                        go_roundw
                        case rel => exact ⟨i + 1, q9 + 1, a', c', by go_num, rfl, hlt3, by omega, by rw [HNX.out, ← List.append_assoc, List.length_append, ← hq9.out]; rfl, by rw [HNX.out, ← List.append_assoc]; exact pair_own HNEXT.out HGS.out.1 HGS.out.2, HNE, grow_below (n := 0) HB67.out HGROW.out (fun x hx => owns_ge HO7.out x hx)⟩
                        case measure => simp [intOf]; omega
                  · have htk : T.take i = T := List.take_of_length_le (by rw [hTl.out]; omega)
                    have hown2 := hown.out
                    have hq92 := hq9.out
                    have hne2 := hne.out
                    rw [htk] at hown2 hq92 hne2
                    have hins : L0 ++ T.filter (fun g => Op.bytesLess f.1 g.1) = insT f T := by rw [HL0.out, List.append_assoc]; rfl
                    rw [hins] at hown2 hq92
                    have hq93 : q9 = j + 1 := by rw [hq92, length_insT hne2, hTl.out]
                    subst hq93
                    have htake : ps.take (j + 1) = ps.take j ++ [f] := by rw [List.take_add_one, HF.out]; rfl
                    have HT2 := Lib.hid (show insT f T = sortT (ps.take (j + 1)) by rw [htake, sortT_snoc, ← hT.out])
                    have HND2 := Lib.hid (show ((ps.take (j + 1)).map Prod.fst).Nodup by
                      rw [htake]
                      exact nodup_snoc.2 ⟨hnd.out, fun g hg => hne2 g (by rw [hT.out]; exact ((sortT_is _ hnd.out).2.1 g).2 hg)⟩)
                    have HTL2 := Lib.hid (show (insT f T).length = j + 1 from hq92.symm)
                    have hcT := (hbv.out.block _ (lt_of_heap HTC6.out)).trans HTC6.out
                    have t0 := cell_of_heap hcT 0
                    have tf := frozen_of_heap hcT
                    have HC2 := Lib.hid (show (wr.setCell ⟨BT, 0, none⟩ (.slice a10 (j + 1) c10)).heap[BT]? = some (.cells #[.slice a10 (j + 1) c10] 24 (0, 0)) by rw [heap_setCell_here _ hcT]; rfl)
                    have hro : RowAt wr w6.heap.size a10 c10 (insT f T) := owns_rowAt (show OwnFl wr w6.heap.size a10 c10 (insT f T) by unfold OwnFl; rw [HTL2.out]; exact hown2)
                    have HR2 := Lib.hid (show RowAt (wr.setCell ⟨BT, 0, none⟩ (.slice a10 (j + 1) c10)) w2.heap.size a10 c10 (insT f T) from (hro.keep (fun g hg _ => Below.heap_setCell _ _ _ _ (by simp; have := HZT.out.2.1; have := HW6.out; omega))).base HW6.out)
                    have HCH2 := Lib.hid (show Ch [BT] w2 (wr.setCell ⟨BT, 0, none⟩ (.slice a10 (j + 1) c10)) from (HCH6.out.trans (Ch.of_below hbv.out []) (by simp)).setCell (p := ⟨BT, 0, none⟩) (.inl (by simp)) _)
                    clear htk hown2 hq92 hne2 hins htake hcT hro
                    go_wp2_with fail
                    go_roundw
                    case rel => exact ⟨j + 1, insT f T, a10, c10, by go_num, hlt, HT2, HND2, HTL2, HC2, HR2, HCH2⟩
                    case measure => simp [intOf]; omega
          · have hTk := hT.out
            have hndk := hnd.out
            rw [List.take_of_length_le (by rw [← HN.out]; omega)] at hTk hndk
            have hnt : twiceB ps = false := twice_false.2 hndk
            have hok : clashB ps = false → makeT ps = (0, T) := fun h => by rw [makeT_ok (by rw [← HN.out]; exact hn32) HNB.out hnt h, hTk]
            have hno : clashB ps = true → makeT ps = (12, []) := fun h => makeT_clash (by rw [← HN.out]; exact hn32) HNB.out hnt h
            have HOK := Lib.hid hok; have HNO := Lib.hid hno
            have HGD := Lib.hid (firstBad_none.1 HNB.out)
            obtain ⟨wb, hwb⟩ : ∃ W, W = wr := ⟨_, rfl⟩
            rw [← hwb] at hTc hTr hch HBR ⊢
            have HTC := hTc; have HTR := hTr; have HBZ := HBR
            obtain rfl : k = n := by omega
            clear hTk hndk hnt hok hno hwb hTc hTr hch HBR hT hnd
            go_wp2_with fail
            go_loopw [95] (fun x wv => ∃ i : Nat, x = .int .i64 i ∧ i ≤ k ∧ Hid ((ps.take i).any (fun f => ps.any fun g => aheadB f.1 g.1) = false) ∧ Hid (Below wb.heap.size wb wv)) (fun x _ => k - (intOf x).toNat)
            case atStart => exact ⟨0, rfl, Nat.zero_le _, rfl, Below.refl _ _⟩
            case round =>
              obtain ⟨i, rfl, hik, han, hbv⟩ := hrel
              have HBV := Lib.hid (HBZ.out.trans (hbv.out.mono HBZ.out.size))
              by_cases hlt5 : i < k
              · obtain ⟨f, hf⟩ : ∃ p, ps[i]? = some p := ⟨_, List.getElem?_eq_getElem (by rw [← HN.out]; exact hlt5)⟩
                obtain ⟨rb, o, rfl, _, hcs⟩ := HR.out.below HBV.out (fun e => by rw [e] at hf; cases hf)
                obtain ⟨p0, p1⟩ := hcs i f hf
                obtain ⟨S1, hS1⟩ : ∃ S : ByteArray, S = ⟨f.1.toArray⟩ := ⟨_, rfl⟩
                obtain ⟨S2, hS2⟩ : ∃ S : ByteArray, S = ⟨f.2.toArray⟩ := ⟨_, rfl⟩
                unfold strV at p0 p1
                rw [← hS1] at p0; rw [← hS2] at p1
                obtain ⟨w6, hw6, hb6, hfx, hz7, hz8⟩ := new_two wr (.string S1) (.string S2) 35
                have HFX := Lib.hid hfx; have HF := Lib.hid hf; have HS := Lib.hid hS1
                have hgf := (HGD.out f (List.mem_of_getElem? hf)).1
                have hS1z : S1.size ≤ 400000 := by have := good_short hgf; rw [hS1, str_size]; omega
                have HGF := Lib.hid hgf
                have HB6 := Lib.hid (HBV.out.trans (hb6.mono HBV.out.size)); have HB67 := Lib.hid (hbv.out.trans (hb6.mono hbv.out.size))
                obtain ⟨BF, hbf⟩ : ∃ b, wr.heap.size = b := ⟨_, rfl⟩
                rw [hbf] at HFX
                clear hcs hf hS1 hS2 hfx hz7 hz8 hb6 hgf
                go_wp2_with fail
                clear p0 p1
                go_loopw [101] (fun x wv => ∃ j : Nat, x = .int .i64 j ∧ j ≤ k ∧ Hid ((ps.take j).any (fun g => aheadB f.1 g.1) = false) ∧ Hid (Below w6.heap.size w6 wv)) (fun x _ => k - (intOf x).toNat)
                case atStart => exact ⟨0, rfl, Nat.zero_le _, rfl, Below.refl _ _⟩
                case round =>
                  obtain ⟨j, rfl, hjk, han2, hbv2⟩ := hrel
                  have HBU := Lib.hid (HB6.out.trans (hbv2.out.mono HB6.out.size))
                  by_cases hlt6 : j < k
                  · obtain ⟨g, hg⟩ : ∃ p, ps[j]? = some p := ⟨_, List.getElem?_eq_getElem (by rw [← HN.out]; exact hlt6)⟩
                    obtain ⟨rb2, o2, e2, _, hcs2⟩ := HR.out.below HBU.out (fun e => by rw [e] at hg; cases hg)
                    obtain ⟨rfl, rfl, _⟩ := Addr.mk.inj (Option.some.inj e2)
                    obtain ⟨g0, g1⟩ := hcs2 j g hg
                    obtain ⟨G1, hG1⟩ : ∃ S : ByteArray, S = ⟨g.1.toArray⟩ := ⟨_, rfl⟩
                    obtain ⟨G2, hG2⟩ : ∃ S : ByteArray, S = ⟨g.2.toArray⟩ := ⟨_, rfl⟩
                    unfold strV at g0 g1
                    rw [← hG1] at g0; rw [← hG2] at g1
                    obtain ⟨w7, hw7, hb7, hgx, hz7, hz8⟩ := new_two wr (.string G1) (.string G2) 35
                    have v0 := cell_of_heap hgx 0
                    have hb67 := hbv2.out.trans (hb7.mono hbv2.out.size)
                    have f0 := cell_of_heap ((hb67.block _ (lt_of_heap HFX.out)).trans HFX.out) 0
                    have hgg := (HGD.out g (List.mem_of_getElem? hg)).1
                    have hA := rahead_any S1 G1 w7 hS1z (by have := good_short hgg; rw [hG1, str_size]; omega)
                    rw [show S1.data.toList = f.1 by rw [show S1 = _ from HS.out], show G1.data.toList = g.1 by rw [hG1], under_ahead HGF.out hgg] at hA
                    have HB7 := Lib.hid hb67; have HB17 := Lib.hid (HB6.out.trans (hb67.mono HB6.out.size)); have HGG := Lib.hid hg
                    clear hcs2 hg hG1 hG2 hgx hb7 hb67 hz7 hz8 hgg e2
                    cases hah : aheadB f.1 g.1
                    · rw [hah] at hA
                      have HA := Lib.hid hA
                      have HN2 := Lib.hid (any_next han2.out HGG.out hah)
                      clear hA hah
                      go_wp2_with fail
                      refine HA.out.mono ?_
                      rintro e w8 ⟨rfl, h8⟩
                      have HB8 := Lib.hid (HB7.out.trans (h8.mono HB7.out.size))
                      clear h8
                      go_wp2_with fail
                      go_roundw
                      case rel => exact ⟨j + 1, by go_num, hlt6, HN2, HB8⟩
                      case measure => simp [intOf]; omega
                    · rw [hah] at hA
                      have HA := Lib.hid hA
                      have HE := Lib.hid (HNO.out (any_here HF.out (any_here HGG.out hah)))
                      clear hA hah
                      go_wp2_with fail
                      refine HA.out.mono ?_
                      rintro e w8 ⟨rfl, h8⟩
                      have HB8 := Lib.hid (HB17.out.trans (h8.mono HB17.out.size))
                      have hbq := HKEEP.out _ HB8.out
                      have b0 := cell_of_heap hbq 0
                      have bf := frozen_of_heap hbq
                      clear h8 hbq
                      go_wp2_with fail
                      refine bodyPost_ret (v := .tuple #[.agg #[.slice none 0 0], .int .i64 12]) (by simp [results, Tryz.results39, go_sem, b0]) rfl ?_
                      exact HOUT.out _ _ HE.out HB8.out _
                  · have HN2 := Lib.hid (any_next han.out HF.out (by
                      have := han2.out
                      rwa [List.take_of_length_le (by rw [← HN.out]; omega)] at this))
                    have HB8 := Lib.hid (HB67.out.trans (hbv2.out.mono HB67.out.size))
                    go_wp2_with fail
                    go_roundw
                    case rel => exact ⟨i + 1, by go_num, hlt5, HN2, HB8⟩
                    case measure => simp [intOf]; omega
              · have hE := HOK.out (by
                  have := han.out
                  rwa [List.take_of_length_le (by rw [← HN.out]; omega)] at this)
                have hro := HTR.out.below hbv.out
                have hfin : ∀ v, MakeTo w (makeT ps) (.returned (.tuple #[.agg #[.slice aT k cT], .int .i64 0])) (wr.setCell ⟨b, 0, none⟩ v) := by
                  intro v
                  rw [hE]
                  have hz := HZT.out
                  have hw := HWB.out
                  refine ⟨aT, cT, by rw [show T.length = k from hTl.out], (hro.keep (fun g hg _ => Below.heap_setCell _ _ _ _ (by simp; omega))).base (by omega), ?_⟩
                  exact HB1.out.trans ((HBV.out.mono (by omega)).setCell (p := ⟨b, 0, none⟩) (by simp; omega) v)
                have HFIN := Lib.hid hfin
                have hbq := HKEEP.out _ HBV.out
                have b0 := cell_of_heap hbq 0
                have bf := frozen_of_heap hbq
                have t0 := cell_of_heap ((hbv.out.block _ (lt_of_heap HTC.out)).trans HTC.out) 0
                clear hbq hfin hro hE
                go_wp2_with fail
                refine bodyPost_ret (v := .tuple #[.agg #[.slice aT k cT], .int .i64 0]) (by simp [results, Tryz.results39, go_sem, b0]) rfl ?_
                exact HFIN.out _
end Go.Proofs.YtjcimajkjnjdpabGreatDoor
