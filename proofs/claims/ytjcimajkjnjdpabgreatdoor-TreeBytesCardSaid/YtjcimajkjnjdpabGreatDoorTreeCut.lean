/- DERIVED. tree.Cut, walked. -/
import Derived.Test.YtjcimajkjnjdpabGreatDoorTreeMount
namespace Go.Proofs.YtjcimajkjnjdpabGreatDoor
open Go.RowKit
set_option linter.unusedVariables false

/-- What stands under a place, by what stands behind it. -/
def cutF (d : List UInt8) (f : Pr) : Option Pr := if (underP d f.1).2 = true then some ((underP d f.1).1, f.2) else none
def cutL (d : List UInt8) (t : List Pr) : List Pr := t.filterMap (cutF d)
def cutT (t : List Pr) (d : List UInt8) : Int × List Pr := if goodT t = true then (if placeB d = true then makeT (cutL d t) else (10, [])) else (1, [])
theorem cutL_next {d : List UInt8} {t : List Pr} {k : Nat} {f : Pr} (h : t[k]? = some f) : cutL d (t.take (k + 1)) = cutL d (t.take k) ++ (cutF d f).toList := by
  unfold cutL
  rw [List.take_add_one, h, List.filterMap_append]
  congr 1
theorem under_short (d p : List UInt8) : (underP d p).1.length ≤ p.length := by
  unfold underP
  split
  · split
    · exact Nat.le_refl _
    · split
      · simp
      · exact Nat.zero_le _
  · exact Nat.zero_le _
theorem pair_snoc {w : World} {base : Nat} {v : Value} {n : Nat} {L : List Pr} {g : Pr} {P S : ByteArray} (h : w.ownsRow base 35 2 v n (pairsV L ++ [.string P, .string S])) (hP : P = ⟨g.1.toArray⟩) (hS : S = ⟨g.2.toArray⟩) : w.ownsRow base 35 2 v n (pairsV (L ++ [g])) := by
  have e : pairsV (L ++ [g]) = pairsV L ++ [.string P, .string S] := by rw [pairsV_append]; subst hP; subst hS; rfl
  rw [e]; exact h
set_option maxRecDepth 100000 in
set_option maxHeartbeats 16000000 in
theorem cut_tree (w : World) (a : Option Addr) (c : Nat) (ts : List Pr) (D : ByteArray) (hr : RdFl w a ts) (hs : Sl a ts.length c) (hl : ts.length ≤ 1000000) (hsz : ∀ p ∈ ts, p.1.length ≤ 400000) (hD : D.size ≤ 400000) :
    Calls Tryz.prog 16 #[.agg #[.slice a ts.length c], .string D] w (MakeTo w (cutT ts D.data.toList)) := by
  obtain ⟨w1, hw1, hb1, hx1, hz1, hz2⟩ := new_cell w (.slice a ts.length c) 24
  obtain ⟨w3, hw3, hb3, hx3, hz5, hz6⟩ := new_cell w1 (.slice none 0 0) 24
  obtain ⟨n, hnn⟩ : ∃ n, n = ts.length := ⟨_, rfl⟩
  obtain ⟨b1, hbe1⟩ : ∃ b, w.heap.size = b := ⟨_, rfl⟩
  obtain ⟨b, hbe⟩ : ∃ b, w1.heap.size = b := ⟨_, rfl⟩
  have hb13 := hb1.trans (hb3.mono hb1.size)
  have hy1 := (hb3.block _ (by omega)).trans hx1
  have hG1 := fun W (h : Below w3.heap.size w3 W) => tgood_any W a c ts ((hr.below hb13).below h) hs hl hsz
  have hout : ∀ x W, cutT ts D.data.toList = (x, []) → Below w3.heap.size w3 W → ∀ v, MakeTo w (cutT ts D.data.toList) (.returned (.tuple #[.agg #[.slice none 0 0], .int .i64 x])) (W.setCell ⟨b, 0, none⟩ v) := by
    intro x W hx hW v
    rw [hx]
    exact makeTo_err w _ x ((hb13.trans (hW.mono hb13.size)).setCell (p := ⟨b, 0, none⟩) (by show w.heap.size ≤ b; omega) v)
  rw [hbe1] at hy1; rw [hbe] at hx3
  have hsize : b1 < w3.heap.size ∧ b < w3.heap.size ∧ w.heap.size ≤ w3.heap.size ∧ w.heap.size ≤ b := by omega
  have hkeep : ∀ W, Below w3.heap.size w3 W → W.heap[b1]? = some (.cells #[.slice a n c] 24 (0, 0)) ∧ W.heap[b]? = some (.cells #[.slice none 0 0] 24 (0, 0)) := fun W h => by
    rw [hnn]
    exact ⟨(h.block _ hsize.1).trans hy1, (h.block _ hsize.2.1).trans hx3⟩
  obtain ⟨X, hX⟩ : ∃ X, X = cutT ts D.data.toList := ⟨_, rfl⟩
  rw [← hX] at hout ⊢
  rw [← hnn] at hG1 hw1 ⊢
  have k1 := cell_of_heap (hkeep w3 (Below.refl _ _)).1 0
  have HR := Lib.hid (hr.below hb13); have HS := Lib.hid hs
  have HN := Lib.hid hnn; have HB := Lib.hid hb13; have HX := Lib.hid hX; have HOUT := Lib.hid hout; have HKEEP := Lib.hid hkeep; have HSIZE := Lib.hid hsize
  have HSZ := Lib.hid hsz
  clear hr hs hnn hb1 hb3 hb13 hX hout hkeep hsize hx1 hx3 hy1 hz1 hz2 hz5 hz6 hl hsz
  cases hg1 : goodT ts
  · have HE := Lib.hid (show cutT ts D.data.toList = (1, []) by unfold cutT; rw [if_neg (by rw [hg1]; simp)])
    have hG := hG1 w3 (Below.refl _ _)
    rw [hg1] at hG
    have HG := Lib.hid hG
    clear hG hg1 hG1
    go_enter Tryz.func16, Tryz.ntmps16
    go_wp2_with fail
    refine HG.out.mono ?_
    rintro e w4 ⟨rfl, h4⟩
    have HB4 := Lib.hid h4
    obtain ⟨_, hq⟩ := HKEEP.out w4 h4
    have q0 := cell_of_heap hq 0
    have qf := frozen_of_heap hq
    clear h4 hq k1
    go_wp2_with fail
    refine bodyPost_ret (v := .tuple #[.agg #[.slice none 0 0], .int .i64 1]) (by simp [results, Tryz.results16, go_sem, q0]) rfl ?_
    exact HOUT.out _ _ (HX.out.trans HE.out) HB4.out _
  · have hfl := goodT_files hg1
    have hG := hG1 w3 (Below.refl _ _)
    rw [hg1] at hG
    have HG := Lib.hid hG
    cases hpl : placeB D.data.toList
    · have HE := Lib.hid (show cutT ts D.data.toList = (10, []) by unfold cutT; rw [if_pos hg1, if_neg (by rw [hpl]; simp)])
      have hde : D.toList.isEmpty = false := by
        unfold placeB at hpl
        rw [Lib.toList_data]
        cases h : D.data.toList.isEmpty
        · rfl
        · rw [h] at hpl; cases hpl
      have hdg : goodB D.data.toList = false := by
        unfold placeB at hpl
        cases h : goodB D.data.toList
        · rfl
        · rw [h] at hpl; simp at hpl
      have hGD := fun W => good_any D W (by omega)
      rw [hdg] at hGD
      have HGD := Lib.hid hGD
      have hden : (!D.toList.isEmpty) = true := by rw [hde]; rfl
      clear hG hg1 hG1 hGD hdg hpl hfl
      go_enter Tryz.func16, Tryz.ntmps16
      go_wp2_with fail
      refine HG.out.mono ?_
      rintro e w4 ⟨rfl, h4⟩
      have HB4 := Lib.hid h4
      clear h4 k1
      go_wp2_with fail
      refine (HGD.out w4).mono ?_
      rintro e w6 ⟨rfl, h6⟩
      have HB6 := Lib.hid (HB4.out.trans (h6.mono HB4.out.size))
      obtain ⟨_, hq⟩ := HKEEP.out w6 (HB4.out.trans (h6.mono HB4.out.size))
      have q0 := cell_of_heap hq 0
      have qf := frozen_of_heap hq
      clear h6 hq
      go_wp2_with fail
      refine bodyPost_ret (v := .tuple #[.agg #[.slice none 0 0], .int .i64 10]) (by simp [results, Tryz.results16, go_sem, q0]) rfl ?_
      exact HOUT.out _ _ (HX.out.trans HE.out) HB6.out _
    · have HPL := Lib.hid hpl; have HFL := Lib.hid hfl
      have HGG := Lib.hid hg1
      have hn32 : n ≤ 32 := by rw [HN.out]; exact hfl.1
      obtain ⟨i0, hi, hzz0, hzz1, hzz2⟩ := info_three infoFile
      have HI := Lib.hid (And.intro hi (And.intro hzz0 (And.intro hzz1 hzz2)))
      have hway : D.toList.isEmpty = true ∨ (D.toList.isEmpty = false ∧ goodB D.data.toList = true) := by
        unfold placeB at hpl
        rw [Lib.toList_data]
        cases h : D.data.toList.isEmpty
        · rw [h] at hpl; exact .inr ⟨rfl, by simpa using hpl⟩
        · exact .inl rfl
      clear hG hG1 hfl hg1 hi hzz0 hzz1 hzz2 hpl
      go_enter Tryz.func16, Tryz.ntmps16
      go_wp2_with fail
      refine HG.out.mono ?_
      rintro e w4 ⟨rfl, h4⟩
      have HB4 := Lib.hid h4
      clear h4 k1
      go_upto_region 3 with fail
      go_cut [16] (fun x wx => x = .bool false ∧ Hid (Below w3.heap.size w3 wx))
      case first =>
        rcases hway with hde | ⟨hde, hdg⟩
        · go_wp2_with fail
          go_meet
          exact ⟨rfl, HB4⟩
        · have hGD := fun W => good_any D W (by omega)
          rw [hdg] at hGD
          have HGD := Lib.hid hGD
          have hden : (!D.toList.isEmpty) = true := by rw [hde]; rfl
          clear hGD hdg
          go_wp2_with fail
          refine (HGD.out w4).mono ?_
          rintro e w6 ⟨rfl, h6⟩
          have HB6 := Lib.hid (HB4.out.trans (h6.mono HB4.out.size))
          clear h6
          go_wp2_with fail
          go_meet
          exact ⟨rfl, HB6⟩
      obtain ⟨rfl, hbc⟩ := hcut
      clear hway HB4
      have q1 := cell_of_heap (HKEEP.out wc hbc.out).1 0
      go_wp2_with fail
      clear q1
      go_loopw [6, 28] (fun y x wr => ∃ (k q : Nat) (a8 : Option Addr) (c8 : Nat), y = .slice a8 q c8 ∧ x = .int .i64 k ∧ k ≤ n ∧ q ≤ k ∧ Hid (q = (cutL D.data.toList (ts.take k)).length) ∧ Hid (wr.ownsRow w3.heap.size 35 2 (.slice a8 q c8) q (pairsV (cutL D.data.toList (ts.take k)))) ∧ Hid (Below w3.heap.size w3 wr)) (fun _ x _ => n - (intOf x).toNat)
      case atStart => exact ⟨0, 0, none, 0, rfl, rfl, Nat.zero_le _, Nat.le_refl _, rfl, World.ownsRow_nil _ _ _ _, hbc⟩
      case round =>
        obtain ⟨k, q, a8, c8, rfl, rfl, hkm, hqk, hq, hown, hbr⟩ := hrel
        by_cases hlt : k < n
        · obtain ⟨p, hp⟩ : ∃ p, ts[k]? = some p := ⟨_, List.getElem?_eq_getElem (by rw [← HN.out]; exact hlt)⟩
          obtain ⟨rb, o, rfl, _, hcs⟩ := HR.out.below hbr.out (fun e => by rw [e] at hp; cases hp)
          obtain ⟨p0, p1⟩ := hcs k p hp
          obtain ⟨S1, hS1⟩ : ∃ S : ByteArray, S = ⟨p.1.toArray⟩ := ⟨_, rfl⟩
          obtain ⟨S2, hS2⟩ : ∃ S : ByteArray, S = ⟨p.2.toArray⟩ := ⟨_, rfl⟩
          have hS1z : S1.size ≤ 400000 := by rw [hS1, str_size]; exact HSZ.out p (List.mem_of_getElem? hp)
          have hU := fun W => under_any D S1 W hD hS1z
          rw [show S1.data.toList = p.1 by rw [hS1]] at hU
          unfold strV at p0 p1
          rw [← hS1] at p0; rw [← hS2] at p1
          obtain ⟨w7, hw7, hb7, hfx, _, _⟩ := new_two wr (.string S1) (.string S2) 35
          have f0 := cell_of_heap hfx 0
          have HFX := Lib.hid hfx
          have HB7 := Lib.hid (hbr.out.trans (hb7.mono hbr.out.size))
          have HOWN7 := Lib.hid (ownsRow_keep hown.out (fun g hg => hb7.block g (owns_lt hown.out g hg)))
          have HP := Lib.hid hp; have HS2 := Lib.hid hS2
          have hnx := cutL_next (d := D.data.toList) hp
          clear hcs hfx hp hS1 hS2 hS1z hb7
          cases hu : underP D.data.toList p.1 with
          | mk u1 u2 =>
          rw [hu] at hU
          dsimp only at hU
          unfold strV at hU
          obtain ⟨P, hP⟩ : ∃ P : ByteArray, P = ⟨u1.toArray⟩ := ⟨_, rfl⟩
          rw [← hP] at hU
          unfold cutF at hnx
          rw [hu] at hnx
          dsimp only at hnx
          have HU := Lib.hid hU; have HP2 := Lib.hid hP
          clear hU hP hu
          cases u2
          · rw [if_neg (by simp)] at hnx
            have HNX := Lib.hid (show cutL D.data.toList (ts.take (k + 1)) = cutL D.data.toList (ts.take k) by rw [hnx]; simp)
            clear hnx
            go_wp2_with fail
            refine (HU.out w7).mono ?_
            rintro e w8 ⟨rfl, h8⟩
            have HB8 := Lib.hid (HB7.out.trans (h8.mono HB7.out.size))
            have HO8 := Lib.hid (ownsRow_keep HOWN7.out (w' := w8) (fun g hg => h8.block g (owns_lt HOWN7.out g hg)))
            clear h8 f0
            go_wp2_with fail
            go_roundw
            case rel => exact ⟨k + 1, q, a8, c8, rfl, by go_num, hlt, by omega, by rw [HNX.out]; exact hq.out, by rw [HNX.out]; exact HO8.out, HB8⟩
            case measure => simp [intOf]; omega
          · rw [if_pos rfl] at hnx
            have HNX := Lib.hid (show cutL D.data.toList (ts.take (k + 1)) = cutL D.data.toList (ts.take k) ++ [(u1, p.2)] from hnx)
            clear hnx
            go_wp2_with fail
            refine (HU.out w7).mono ?_
            rintro e w8 ⟨rfl, h8⟩
            have HB8 := Lib.hid (HB7.out.trans (h8.mono HB7.out.size))
            have f1 := cell_of_heap ((h8.block _ (lt_of_heap HFX.out)).trans HFX.out) 1
            have hsrc := pr_src (heap_alloc_new w8 (.cells #[.string P, .string S2] 35)) rfl rfl
            have HSRC := Lib.hid hsrc
            have HO9 := Lib.hid (ownsRow_keep HOWN7.out (w' := w8.alloc (.cells #[.string P, .string S2] 35)) (fun g hg => (Below.heap_alloc w8 _ g (by have := owns_lt HOWN7.out g hg; have := h8.size; omega)).trans (h8.block g (owns_lt HOWN7.out g hg))))
            have HZ9 := Lib.hid (show w3.heap.size ≤ (w8.alloc (.cells #[.string P, .string S2] 35)).heap.size from by have := HB8.out.size; simp; omega)
            clear h8 f0 hsrc
            go_wp2_with (first | (at_builtin; refine wpList_append_srcs rfl (.tmp 40) (.tmp 45) 22 22 rfl w3.heap.size 35 i0 _ 2 32 Tryz.underlying22 HI.out.1 HI.out.2.1 HI.out.2.2.1 HI.out.2.2.2 rfl (by decide) _ rfl q _ HO9.out _ rfl _ _ HSRC.out (by unfold maxLen; omega) (by omega) HZ9.out ?_; intro a' c' w9 hown9 hgrow _ hblk; have HNEXT := Lib.hid hown9; have HGROW := Lib.hid hgrow; clear hown9 hgrow hblk) | fail)
            go_roundw
            case rel => exact ⟨k + 1, q + 1, a', c', rfl, by go_num, hlt, by omega, by rw [HNX.out, List.length_append, ← hq.out]; rfl, by rw [HNX.out]; exact pair_snoc (g := (u1, p.2)) HNEXT.out HP2.out HS2.out, grow_below (n := 0) HB8.out HGROW.out (fun g hg => owns_ge HO9.out g hg)⟩
            case measure => simp [intOf]; omega
        · obtain rfl : k = n := by omega
          have ho := hown.out
          have hq2 := hq.out
          rw [List.take_of_length_le (by rw [← HN.out]; exact Nat.le_refl _)] at ho hq2
          have hE : cutT ts D.data.toList = makeT (cutL D.data.toList ts) := by
            unfold cutT
            rw [if_pos HGG.out, if_pos HPL.out]
          obtain ⟨L, hL⟩ : ∃ L, L = cutL D.data.toList ts := ⟨_, rfl⟩
          rw [← hL] at ho hE hq2
          have hrow := owns_rowAt (show OwnFl wr w3.heap.size a8 c8 L by unfold OwnFl; rw [← hq2]; exact ho)
          have hM := make_any wr a8 c8 L hrow.rd hrow.sl (by omega) (fun p hp => by
            rw [hL] at hp
            obtain ⟨f, hf, e⟩ := List.mem_filterMap.1 hp
            unfold cutF at e
            split at e
            · obtain rfl := Option.some.inj e
              have h1 := under_short D.data.toList f.1
              have h2 := HSZ.out f hf
              show (underP D.data.toList f.1).1.length ≤ _
              omega
            · cases e)
          rw [← hq2, ← hE, ← HX.out] at hM
          obtain ⟨x, qs⟩ := X
          obtain ⟨nq, hnq⟩ : ∃ q, q = qs.length := ⟨_, rfl⟩
          unfold MakeTo at hM HOUT ⊢
          dsimp only at hM ⊢
          rw [← hnq] at hM ⊢
          have HMK := Lib.hid hM; have HQ := Lib.hid hnq
          clear hM hrow ho hL hE hown hq2 HOUT hnq
          go_wp2_with fail
          refine HMK.out.mono ?_
          rintro e w7 ⟨a7, c7, rfl, hrow, hb7⟩
          have HB7 := Lib.hid (hbr.out.trans (hb7.mono hbr.out.size))
          have hqq := (HKEEP.out w7 HB7.out).2
          have q0 := cell_of_heap hqq 0
          have qf := frozen_of_heap hqq
          have hfin : ∀ v, RowAt (w7.setCell ⟨b, 0, none⟩ v) w.heap.size a7 c7 qs ∧ Below w.heap.size w (w7.setCell ⟨b, 0, none⟩ v) := by
            intro v
            obtain ⟨z1, z3, z4, z5⟩ := HSIZE.out
            have z6 := hbr.out.size
            exact ⟨(hrow.keep (fun g hg _ => Below.heap_setCell _ _ _ _ (by simp; omega))).base (by omega), (HB.out.trans (HB7.out.mono z4)).setCell (p := ⟨b, 0, none⟩) z5 v⟩
          have HFIN := Lib.hid hfin
          clear hrow hb7 hqq hfin
          go_wp2_with fail
          refine bodyPost_ret (v := .tuple #[.agg #[.slice a7 nq c7], .int .i64 x]) (by simp [results, Tryz.results16, go_sem, q0]) rfl ?_
          exact ⟨a7, c7, by rw [show nq = qs.length from HQ.out], (HFIN.out _).1, (HFIN.out _).2⟩
end Go.Proofs.YtjcimajkjnjdpabGreatDoor
