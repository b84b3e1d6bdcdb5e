/- DERIVED. tree.Decode, walked. -/
import Derived.Test.YtjcimajkjnjdpabGreatDoorTreeFileD
import Derived.Test.YtjcimajkjnjdpabGreatDoorTreePut
namespace Go.Proofs.YtjcimajkjnjdpabGreatDoor
open Go.RowKit
set_option linter.unusedVariables false
set_option maxRecDepth 100000

def decM : Except Int (List Pr) → Int × List Pr
  | .error f => (f, [])
  | .ok ts => (0, ts)
theorem treeD_ok {s : List UInt8} {t : T} (h : decT s = .ok t) : decM (treeD s) = if (!t.leaf && t.kids.all fileB) && goodT (t.kids.map fileD) then (0, t.kids.map fileD) else (5, []) := by
  unfold treeD
  rw [h]
  dsimp only
  split <;> rfl
theorem treeD_err {s : List UInt8} {f : Int} (h : decT s = .error f) : decM (treeD s) = (f, []) := by
  unfold treeD
  rw [h]
  rfl
theorem allT_next {ks : List T} {i : Nat} {k : T} (P : T → Bool) (h : ks[i]? = some k) : (ks.take (i + 1)).all P = ((ks.take i).all P && P k) := by
  rw [List.take_add_one, h, List.all_append]
  simp
theorem maps_next {ks : List T} {i : Nat} {k : T} (g : T → Pr) (h : ks[i]? = some k) : (ks.take (i + 1)).map g = (ks.take i).map g ++ [g k] := by
  rw [List.take_add_one, h, List.map_append]
  rfl
set_option maxHeartbeats 16000000 in
theorem tdec_any (w : World) (S : ByteArray) (hSm : S.size ≤ 140737488351232) (htab : Tab w) : Calls Tryz.prog 9 #[.string S] w (MakeTo w (decM (treeD S.data.toList))) := by
  obtain ⟨w1, hw1, hb1, hx1, hz1, hz2⟩ := new_cell w (.slice none 0 0) 24
  obtain ⟨b, hbe⟩ : ∃ b, w.heap.size = b := ⟨_, rfl⟩
  have hD := dec_any w1 S hSm (htab.below hb1)
  obtain ⟨X, hX⟩ : ∃ X, X = decM (treeD S.data.toList) := ⟨_, rfl⟩
  rw [← hX]
  have hout : ∀ x W, X = (x, []) → Below w1.heap.size w1 W → ∀ v, MakeTo w X (.returned (.tuple #[.agg #[.slice none 0 0], .int .i64 x])) (W.setCell ⟨b, 0, none⟩ v) := by
    intro x W hx hW v
    rw [hx]
    exact makeTo_err w _ x ((hb1.trans (hW.mono hb1.size)).setCell (p := ⟨b, 0, none⟩) (by show w.heap.size ≤ b; omega) v)
  rw [hbe] at hx1
  have hsize : b < w1.heap.size ∧ w.heap.size ≤ w1.heap.size ∧ w.heap.size ≤ b := by omega
  have hkeep : ∀ W, Below w1.heap.size w1 W → W.heap[b]? = some (.cells #[.slice none 0 0] 24 (0, 0)) := fun W h => (h.block _ hsize.1).trans hx1
  have HB := Lib.hid hb1; have HX := Lib.hid hX; have HOUT := Lib.hid hout; have HKEEP := Lib.hid hkeep; have HSIZE := Lib.hid hsize; have HT := Lib.hid htab
  clear hb1 hX hout hkeep hsize hx1 hz1 hz2 htab
  cases hd : decT S.data.toList with
  | error f =>
    have HE := Lib.hid (HX.out.trans (treeD_err hd))
    have hf := decT_errs hd
    rw [hd] at hD
    unfold DecTo at hD
    have hf2 : (f != 0) = true := by rcases hf with rfl | rfl | rfl <;> decide
    have HD := Lib.hid hD
    clear hf hd hD
    go_enter Tryz.func9, Tryz.ntmps9
    go_wp2_with fail
    refine HD.out.mono ?_
    rintro e w2 ⟨rfl, h2⟩
    obtain ⟨w3, hw3, hb3, hx3, _, _⟩ := new_n w2 #[.bool false, .string ⟨#[]⟩, .slice none 0 0] 50
    have H3 := Lib.hid (h2.trans (hb3.mono h2.size))
    have hq := HKEEP.out w3 H3.out
    have q0 := cell_of_heap hq 0
    have qf := frozen_of_heap hq
    subst hw3
    clear h2 hb3 hx3 hq
    go_wp2_with fail
    refine bodyPost_ret (v := .tuple #[.agg #[.slice none 0 0], .int .i64 f]) (by simp [results, Tryz.results9, go_sem, q0]) rfl ?_
    exact HOUT.out _ _ HE.out H3.out _
  | ok t =>
    have hE := HX.out.trans (treeD_ok hd)
    have hsz := dec_sizes hd
    rw [hd] at hD
    unfold DecTo at hD
    have HD := Lib.hid hD; have HE := Lib.hid hE
    obtain ⟨n, hnn⟩ : ∃ n, n = t.kids.length := ⟨_, rfl⟩
    obtain ⟨lf, hlf⟩ : ∃ b, b = t.leaf := ⟨_, rfl⟩
    obtain ⟨S1, hS1⟩ : ∃ S : ByteArray, strV t.atom = .string S := ⟨_, rfl⟩
    have hn64 : n ≤ 65536 := by rw [hnn]; exact hsz.1
    obtain ⟨i0, hi, hzz0, hzz1, hzz2⟩ := info_three infoFile
    have HI := Lib.hid (And.intro hi (And.intro hzz0 (And.intro hzz1 hzz2)))
    have HN := Lib.hid hnn; have HLF := Lib.hid hlf; have HS1 := Lib.hid hS1; have HSZ := Lib.hid hsz.2
    clear hd hD hE hsz hnn hlf hS1 hi hzz0 hzz1 hzz2
    go_enter Tryz.func9, Tryz.ntmps9
    go_wp2_with fail
    refine HD.out.mono ?_
    rintro e w2 ⟨v0, v1, v2, G, rfl, h2, hm⟩
    obtain ⟨rfl, rfl, ha, hk, a, c, rfl, hlc, hcm, hkids⟩ := (NodeG.at _ _ _ _ _ hm.node).open
    rw [HS1.out, ← HN.out, ← HLF.out]
    obtain ⟨w3, hw3, hb3, hx3, z1, z2⟩ := new_n w2 #[.bool lf, .string S1, .slice a n c] 50
    obtain ⟨w4, hw4, hb4, hx4, z3, z4⟩ := new_cell w3 (.slice none 0 0) 24
    have hx34 := (hb4.block _ (by omega)).trans hx3
    have HB3 := Lib.hid (h2.trans (hb3.mono h2.size))
    have HB4 := Lib.hid (HB3.out.trans (hb4.mono HB3.out.size))
    have h24 := hb3.trans (hb4.mono hb3.size)
    have HK := Lib.hid (KidsIn.below hkids hb3)
    obtain ⟨B4, hB4⟩ : ∃ B, B = w3.heap.size := ⟨_, rfl⟩
    have p0 := cell_of_heap hx34 0
    have p2 := cell_of_heap hx34 2
    rw [← hw4] at p0 p2
    rw [← hB4] at hx4
    have HBB := Lib.hid (show w1.heap.size ≤ B4 ∧ B4 < w4.heap.size ∧ w3.heap.size = B4 by have := HB3.out.size; omega)
    have HB34 := Lib.hid hb4
    have HX4 := Lib.hid hx4; have HW4 := Lib.hid hw4; have HB4' := Lib.hid hB4
    clear hw4 hx4 hb4 hb3 hx3 z1 z2 z3 z4 hx34 h2 h24 ha hk hkids hm hB4 hlc hcm
    go_wp2_with fail
    rw [HW4.out, ← HB4'.out]
    clear p0 p2
    go_loopw [7, 28] (fun y x wr => ∃ (k : Nat) (okb : Bool) (a8 : Option Addr) (c8 : Nat), y = .bool okb ∧ x = .int .i64 k ∧ k ≤ n ∧ Hid (okb = (!lf && (t.kids.take k).all fileB)) ∧ Hid (wr.ownsRow w4.heap.size 35 2 (.slice a8 k c8) k (pairsV ((t.kids.take k).map fileD))) ∧ Hid (wr.heap[B4]? = some (.cells #[.slice a8 k c8] 24 (0, 0))) ∧ Hid (Below w3.heap.size w3 wr) ∧ Hid (w4.heap.size ≤ wr.heap.size)) (fun _ x _ => n - (intOf x).toNat)
    case atStart => exact ⟨0, !lf, none, 0, rfl, rfl, Nat.zero_le _, (by simp [Hid]), World.ownsRow_nil _ _ _ _, HX4, HB34, Nat.le_refl _⟩
    case round =>
      obtain ⟨k, okb, a8, c8, rfl, rfl, hkn, hok, hown, hcell, hbr, hsz8⟩ := hrel
      by_cases hlt : k < n
      · obtain ⟨kk, hkk⟩ : ∃ kk, t.kids[k]? = some kk := ⟨_, List.getElem?_eq_getElem (by rw [← HN.out]; exact hlt)⟩
        obtain ⟨bk, o, u0, u1, u2, rfl, c0, c1, c2, hnk⟩ := HK.out.below hbr.out k kk hkk
        have hnk2 := hnk
        obtain ⟨rfl, rfl, _, _, ak, ck, rfl, _⟩ := hnk.open
        obtain ⟨l, hl⟩ : ∃ l, kk.leaf = l := ⟨_, rfl⟩
        obtain ⟨A, hA⟩ : ∃ A : ByteArray, strV kk.atom = .string A := ⟨_, rfl⟩
        obtain ⟨m, hm⟩ : ∃ m, kk.kids.length = m := ⟨_, rfl⟩
        rw [hl] at c0; rw [hA] at c1; rw [hm] at c2
        rw [hl, hA, hm] at hnk2
        obtain ⟨w5, hw5, hb5, hx5, z1, z2⟩ := new_n wr #[.bool l, .string A, .slice ak m ck] 50
        have hF := file_any w5 kk _ _ _ (hnk2.below hb5)
        obtain ⟨P, hP⟩ : ∃ A : ByteArray, A = ⟨(fileD kk).1.toArray⟩ := ⟨_, rfl⟩
        obtain ⟨Q, hQ⟩ : ∃ A : ByteArray, A = ⟨(fileD kk).2.toArray⟩ := ⟨_, rfl⟩
        obtain ⟨fb, hfb⟩ : ∃ b, b = fileB kk := ⟨_, rfl⟩
        unfold FileTo at hF
        rw [show strV (fileD kk).1 = .string P by rw [hP]; rfl, show strV (fileD kk).2 = .string Q by rw [hQ]; rfl, ← hfb] at hF
        have f0 := cell_of_heap hx5 0
        have f1 := cell_of_heap hx5 1
        have f2 := cell_of_heap hx5 2
        have HF := Lib.hid hF; have HP := Lib.hid hP; have HQ := Lib.hid hQ; have HFB := Lib.hid hfb; have HKK := Lib.hid hkk
        have HB5 := Lib.hid (hbr.out.trans (hb5.mono hbr.out.size))
        have HO5 := Lib.hid (ownsRow_keep hown.out (fun g hg => hb5.block g (owns_lt hown.out g hg)))
        have HC5 := Lib.hid ((hb5.block _ (lt_of_heap hcell.out)).trans hcell.out)
        have HZ5 := Lib.hid (Nat.le_trans hsz8.out hb5.size)
        clear hkk hnk hnk2 hl hA hm hb5 hx5 z1 z2 hF hP hQ hfb hown hcell hbr hsz8
        go_wp2_with fail
        refine HF.out.mono ?_
        rintro e w6 ⟨rfl, h6⟩
        obtain ⟨w7, hw7, hb7, hx7, z1, z2⟩ := new_two w6 (.string P) (.string Q) 35
        obtain ⟨w8, hw8, hb8, hx8, z3, z4⟩ := new_two w7 (.string P) (.string Q) 35
        have h57 := h6.trans (hb7.mono h6.size)
        have h58 := h57.trans (hb8.mono h57.size)
        have d0 := cell_of_heap hx7 0
        have d1 := cell_of_heap hx7 1
        have g0 := cell_of_heap ((h57.block _ (lt_of_heap HC5.out)).trans HC5.out) 0
        have HSRC := Lib.hid (pr_src hx8 rfl rfl)
        have HO8 := Lib.hid (ownsRow_keep HO5.out (fun g hg => h58.block g (owns_lt HO5.out g hg)))
        have HC8 := Lib.hid ((h58.block _ (lt_of_heap HC5.out)).trans HC5.out)
        have HB8 := Lib.hid (HB5.out.trans (h58.mono HB5.out.size))
        have HZ8 := Lib.hid (Nat.le_trans HZ5.out h58.size)
        clear h6 hb7 hx7 z1 z2 hb8 hx8 z3 z4 h57 h58 c0 c1 c2 f0 f1 f2
        cases okb
        all_goals
          go_wp2_with (first | (at_builtin; refine wpList_append_srcs rfl (.tmp 42) (.tmp 44) 22 22 rfl w4.heap.size 35 i0 _ 2 32 Tryz.underlying22 HI.out.1 HI.out.2.1 HI.out.2.2.1 HI.out.2.2.2 rfl (by decide) _ rfl k _ HO8.out _ rfl _ _ HSRC.out (by unfold maxLen; omega) (by omega) HZ8.out ?_; intro a' c' w9 hown9 hgrow _ hblk; have HNEXT := Lib.hid hown9; have HGROW := Lib.hid hgrow; have hc9 : w9.heap[B4]? = some (.cells #[.slice a8 k c8] 24 (0, 0)) := (hgrow.block B4 (lt_of_heap HC8.out) (fun e => by have := owns_ge HO8.out B4 e.symm; have := HBB.out.2.1; omega)).trans HC8.out; have y0 := cell_of_heap hc9 0; have yf := frozen_of_heap hc9; have HC9 := Lib.hid hc9; clear hown9 hgrow hblk hc9) | fail)
          have hset : ∀ g, g ≠ B4 → (w9.setCell ⟨B4, 0, none⟩ (.slice a' (k + 1) c')).heap[g]? = w9.heap[g]? := fun g hg => Below.heap_setCell _ _ _ _ (by simpa using hg)
          have hbn := below_grown HB8.out HGROW.out (fun g hg => by have := owns_ge HO8.out g hg; have := HBB.out; omega)
          have HEND := Lib.hid (show (w9.setCell ⟨B4, 0, none⟩ (.slice a' (k + 1) c')).ownsRow w4.heap.size 35 2 (.slice a' (k + 1) c') (k + 1) (pairsV ((t.kids.take k).map fileD ++ [fileD kk])) from ownsRow_keep (pair_snoc (g := fileD kk) HNEXT.out HP.out HQ.out) (fun g hg => hset g (by have := owns_ge HNEXT.out g hg; have := HBB.out.2.1; omega)))
          have HCE := Lib.hid (heap_setCell_here (i := 0) (.slice a' (k + 1) c') HC9.out)
          have HBE := Lib.hid (hbn.setCell (p := ⟨B4, 0, none⟩) (by show w3.heap.size ≤ B4; have := HBB.out.2.2; omega) (.slice a' (k + 1) c'))
          have HZE := Lib.hid (show w4.heap.size ≤ (w9.setCell ⟨B4, 0, none⟩ (.slice a' (k + 1) c')).heap.size from by have := HZ8.out; have := HGROW.out.size; simp only [World.setCell, Array.size_modify]; omega)
          have HOK2 := Lib.hid (show (!lf && (t.kids.take (k + 1)).all fileB) = ((!lf && (t.kids.take k).all fileB) && fb) by rw [allT_next fileB HKK.out, HFB.out, Bool.and_assoc])
          clear hset hbn y0 yf
          go_wp2_with fail
          go_roundw
          case rel => exact ⟨k + 1, _, a', c', rfl, by go_num, hlt, (by unfold Hid; rw [HOK2.out, ← hok.out]; simp), by rw [maps_next fileD HKK.out]; exact HEND, HCE, HBE, HZE⟩
          case measure => simp [intOf]; omega
      · obtain rfl : k = n := by omega
        have ho := hown.out
        have hok2 := hok.out
        rw [List.take_of_length_le (by rw [← HN.out]; exact Nat.le_refl _)] at ho hok2
        obtain ⟨rs, hrs⟩ : ∃ rs, rs = t.kids.map fileD := ⟨_, rfl⟩
        have hE := HE.out
        rw [← HLF.out, ← hok2] at hE
        rw [← hrs] at ho hE
        have hkl : k = rs.length := by rw [hrs, List.length_map]; exact HN.out
        have hszr : ∀ p ∈ rs, p.1.length ≤ 400000 := fun p hp => by
          rw [hrs] at hp
          obtain ⟨x, hx, rfl⟩ := List.mem_map.1 hp
          have := (HSZ.out x hx).1
          omega
        have HKL := Lib.hid hkl
        have hrow := owns_rowAt (show OwnFl wr w4.heap.size a8 c8 rs by unfold OwnFl; rw [← hkl]; exact ho)
        have HROW := Lib.hid hrow
        have hb1r := HB3.out.trans (hbr.out.mono HB3.out.size)
        have hqq := HKEEP.out wr hb1r
        have q0 := cell_of_heap hqq 0
        have qf := frozen_of_heap hqq
        have g0 := cell_of_heap hcell.out 0
        have HBR := Lib.hid hb1r; have HEE := Lib.hid hE
        have hG := tgood_any wr a8 c8 rs hrow.rd hrow.sl (by omega) hszr
        rw [← hkl] at hG
        have HG := Lib.hid hG; have HC := hcell
        clear ho hok2 hrs hE hkl hszr hrow hb1r hqq hG hown hcell hok
        cases okb
        · have HE5 := Lib.hid (HEE.out.trans (by rw [Bool.false_and]; first | done | rfl))
          go_wp2_with fail
          refine bodyPost_ret (v := .tuple #[.agg #[.slice none 0 0], .int .i64 5]) (by simp [results, Tryz.results9, go_sem, q0]) rfl ?_
          exact HOUT.out _ _ HE5.out HBR.out _
        · have hE2 := HEE.out
          rw [Bool.true_and] at hE2
          cases hg : goodT rs
          · rw [hg] at hE2
            have HE5 := Lib.hid (show X = (5, []) from hE2)
            have hG := HG.out
            rw [hg] at hG
            have HG2 := Lib.hid hG
            clear hG hg hE2
            go_wp2_with fail
            refine HG2.out.mono ?_
            rintro e wg ⟨rfl, hbg⟩
            have HBG := Lib.hid (HBR.out.trans (hbg.mono HBR.out.size))
            have hqq := HKEEP.out wg HBG.out
            clear q0 qf
            have q0 := cell_of_heap hqq 0
            have qf := frozen_of_heap hqq
            clear hbg hqq
            go_wp2_with fail
            refine bodyPost_ret (v := .tuple #[.agg #[.slice none 0 0], .int .i64 5]) (by simp [results, Tryz.results9, go_sem, q0]) rfl ?_
            exact HOUT.out _ _ HE5.out HBG.out _
          · rw [hg] at hE2
            have HE5 := Lib.hid (show X = (0, rs) from hE2)
            have hG := HG.out
            rw [hg] at hG
            have HG2 := Lib.hid hG
            clear hG hg hE2
            go_wp2_with fail
            refine HG2.out.mono ?_
            rintro e wg ⟨rfl, hbg⟩
            have HBG := Lib.hid (HBR.out.trans (hbg.mono HBR.out.size))
            have hqq := HKEEP.out wg HBG.out
            have hcg := (hbg.block _ (lt_of_heap HC.out)).trans HC.out
            clear q0 qf g0
            have q0 := cell_of_heap hqq 0
            have qf := frozen_of_heap hqq
            have g0 := cell_of_heap hcg 0
            have hfin : ∀ v, RowAt (wg.setCell ⟨b, 0, none⟩ v) w.heap.size a8 c8 rs ∧ Below w.heap.size w (wg.setCell ⟨b, 0, none⟩ v) := by
              intro v
              obtain ⟨z1, z2, z3⟩ := HSIZE.out
              obtain ⟨z6, z7, _⟩ := HBB.out
              exact ⟨((HROW.out.below hbg).keep (fun g hg _ => Below.heap_setCell _ _ _ _ (by simp; omega))).base (by omega), (HB.out.trans (HBG.out.mono HB.out.size)).setCell (p := ⟨b, 0, none⟩) z3 v⟩
            have HFIN := Lib.hid hfin
            clear hbg hqq hcg hfin
            go_wp2_with fail
            refine bodyPost_ret (v := .tuple #[.agg #[.slice a8 k c8], .int .i64 0]) (by simp [results, Tryz.results9, go_sem, q0]) rfl ?_
            rw [HE5.out]
            exact ⟨a8, c8, by rw [show k = rs.length from HKL.out], (HFIN.out _).1, (HFIN.out _).2⟩
end Go.Proofs.YtjcimajkjnjdpabGreatDoor
