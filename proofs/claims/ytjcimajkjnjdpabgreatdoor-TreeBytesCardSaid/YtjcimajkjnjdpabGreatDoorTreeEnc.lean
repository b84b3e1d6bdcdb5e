/- DERIVED. tree.Encode, walked. -/
import Derived.Test.YtjcimajkjnjdpabGreatDoorTreeNode
import Derived.Deep.RegionHeld3
import Derived.Deep.DeepCutAuto
namespace Go.Proofs.YtjcimajkjnjdpabGreatDoor
open Go.RowKit
set_option linter.unusedVariables false
set_option maxRecDepth 100000

theorem strV_len (P : ByteArray) (l : List UInt8) (h : P = ⟨l.toArray⟩) : strV l = .string P := by rw [h]; rfl
theorem new_n (w : World) (xs : Array Value) (t : TypeId) : ∃ w1, w.alloc (.cells xs t) = w1 ∧ Below w.heap.size w w1 ∧ w1.heap[w.heap.size]? = some (.cells xs t (0, 0)) ∧ w.heap.size + 1 ≤ w1.heap.size ∧ w1.heap.size ≤ w.heap.size + 1 :=
  ⟨_, rfl, (Below.refl _ w).alloc (Nat.le_refl _) _, heap_alloc_new w _, by simp, by simp⟩
/-- A file's node: List of two atoms. -/
theorem filenode_any (w : World) (p : Pr) (P Q : ByteArray) (hP : P = ⟨p.1.toArray⟩) (hQ : Q = ⟨p.2.toArray⟩) (h1 : p.1.length ≤ 400000) (h2 : p.2.length ≤ 400000) :
    Calls Tryz.prog 21 #[.slice (some ⟨w.heap.size, 0, none⟩) 2 2] (w.alloc (.cells #[.bool true, .string P, .slice none 0 0, .bool true, .string Q, .slice none 0 0] 50))
      (fun e w' => ∃ g c, e = .returned (.agg #[.bool false, .string ⟨#[]⟩, .slice (some ⟨g, 0, none⟩) 2 c]) ∧ w.heap.size ≤ g ∧ FileAt w' g c p ∧ Below w.heap.size w w') := by
  rw [← strV_len P _ hP, ← strV_len Q _ hQ]
  obtain ⟨w1, hw1, hb1, hx1, y1, y2⟩ := new_n w #[.bool true, strV p.1, .slice none 0 0, .bool true, strV p.2, .slice none 0 0] 50
  rw [hw1]
  have hk : KidsVA w1 [leafT p.1, leafT p.2] (fileRow p) := ⟨leaf_at _ _ (by omega), leaf_at _ _ (by omega), trivial⟩
  refine (list_anyx w1 _ (some ⟨w.heap.size, 0, none⟩) 2 _ hk (by simp) (by simp) (fun W h => box_src (ts := [leafT p.1, leafT p.2]) hx1 hk W h)).mono ?_
  rintro e w' ⟨a, c, rfl, hb, hk2, ho⟩
  have hcap := owns_cap ho
  rcases ho.2 with ⟨he, _⟩ | ⟨g, cap, cur, he, hg0, hg, hn2, hm, hc, ht⟩
  · obtain ⟨_, h0, _⟩ := Value.slice.inj he
    cases h0
  · obtain ⟨rfl, _, rfl⟩ := Value.slice.inj he
    refine ⟨g, c, rfl, Nat.le_trans hb1.size hg0, ⟨hcap.1, hcap.2, lt_of_heap hg, ⟨h1, h2⟩, fun i u hi => ?_⟩, hb1.trans (hb.mono hb1.size)⟩
    rw [cell_of_heap hg]
    rw [← ht, List.getElem?_take] at hi
    split at hi
    · simpa using hi
    · cases hi
set_option maxHeartbeats 2000000 in
theorem tenc_any (w : World) (a : Option Addr) (c : Nat) (ts : List Pr) (hr : RdFl w a ts) (hs : Sl a ts.length c) (hl : ts.length ≤ 1000000) (hsz : ∀ p ∈ ts, p.1.length ≤ 400000) (htab : Tab w) :
    Calls Tryz.prog 7 #[.agg #[.slice a ts.length c]] w (fun e w' => e = .returned (.tuple #[strV (bytesT ts).1, .int .i64 (bytesT ts).2]) ∧ Below w.heap.size w w') := by
  obtain ⟨w1, hw1, hb1, hx1, hz1, hz2⟩ := new_cell w (.slice a ts.length c) 24
  obtain ⟨n, hnn⟩ : ∃ n, n = ts.length := ⟨_, rfl⟩
  obtain ⟨b1, hbe1⟩ : ∃ b, w.heap.size = b := ⟨_, rfl⟩
  have hG := fun W (h : Below w1.heap.size w1 W) => tgood_any W a c ts ((hr.below hb1).below h) hs hl hsz
  rw [hbe1] at hx1
  have hkeep : ∀ W, Below w1.heap.size w1 W → W.heap[b1]? = some (.cells #[.slice a n c] 24 (0, 0)) := fun W h => by
    rw [hnn]
    exact (h.block _ (by omega)).trans hx1
  obtain ⟨X, hX⟩ : ∃ X, X = bytesT ts := ⟨_, rfl⟩
  rw [← hX]
  rw [← hnn] at hG hw1 hl ⊢
  have HR := Lib.hid (hr.below hb1); have HS := Lib.hid hs; have HN := Lib.hid hnn; have HB := Lib.hid hb1; have HX := Lib.hid hX; have HKEEP := Lib.hid hkeep
  have HT := Lib.hid (htab.below hb1)
  have k1 := cell_of_heap (hkeep w1 (Below.refl _ _)) 0
  clear hr hs hnn hb1 hX hkeep hx1 hz1 hz2 htab hsz
  cases hg1 : goodT ts
  · have HE := Lib.hid (show bytesT ts = ([], 1) by unfold bytesT; rw [if_neg (by rw [hg1]; simp)])
    have hG1 := hG w1 (Below.refl _ _)
    rw [hg1] at hG1
    have HG := Lib.hid hG1
    clear hG hg1 hG1
    go_enter Tryz.func7, Tryz.ntmps7
    go_wp2_with fail
    refine HG.out.mono ?_
    rintro e w4 ⟨rfl, h4⟩
    have HB4 := Lib.hid (HB.out.trans (h4.mono HB.out.size))
    clear h4 k1
    go_wp2_with fail
    go_ret2
    rw [HX.out, HE.out]
    exact ⟨rfl, HB4.out⟩
  · have HE := Lib.hid (show bytesT ts = encT (nodeT ts) by unfold bytesT; rw [if_pos hg1])
    have hG1 := hG w1 (Below.refl _ _)
    rw [hg1] at hG1
    have HG := Lib.hid hG1
    have hfl := goodT_files hg1
    have hn32 : n ≤ 32 := by rw [HN.out]; exact hfl.1
    have hdat : ∀ p ∈ ts, p.1.length ≤ 400000 ∧ p.2.length ≤ 400000 := fun p hp => by
      have h1 := firstBad_none.1 hfl.2.1 p hp
      exact ⟨by have := good_short h1.1; omega, by have := h1.2; omega⟩
    have HD := Lib.hid hdat
    obtain ⟨iN, hiN, hz0, hz1, hz2⟩ := info_parts nodeInfo
    have HI := Lib.hid (And.intro hiN (And.intro hz0 (And.intro hz1 hz2)))
    clear hG hg1 hG1 hfl hdat hiN hz0 hz1 hz2
    go_enter Tryz.func7, Tryz.ntmps7
    go_wp2_with fail
    refine HG.out.mono ?_
    rintro e w2 ⟨rfl, h2⟩
    have H2 := Lib.hid h2
    clear k1
    have k2 := cell_of_heap (HKEEP.out w2 h2) 0
    clear h2
    go_wp2_with fail
    clear k2
    go_loopw [4, 13] (fun y x wr => ∃ (k : Nat) (a8 : Option Addr) (c8 : Nat) (xs : List Value), y = .slice a8 k c8 ∧ x = .int .i64 k ∧ k ≤ n ∧ Hid (FilesV wr (Value.slice a8 k c8).ownBlock (ts.take k) xs) ∧ Hid (wr.ownsRow w1.heap.size 50 3 (.slice a8 k c8) k xs) ∧ Hid (Below w1.heap.size w1 wr)) (fun _ x _ => n - (intOf x).toNat)
    case atStart => exact ⟨0, none, 0, [], rfl, rfl, Nat.zero_le _, trivial, World.ownsRow_nil _ _ _ _, H2⟩
    case round =>
      obtain ⟨k, a8, c8, xs, rfl, rfl, hkn, hkv, hown, hbr⟩ := hrel
      by_cases hlt : k < n
      · obtain ⟨p, hp⟩ : ∃ p, ts[k]? = some p := ⟨_, List.getElem?_eq_getElem (by rw [← HN.out]; exact hlt)⟩
        obtain ⟨rb, o, rfl, _, hcs⟩ := HR.out.below hbr.out (fun e => by rw [e] at hp; cases hp)
        obtain ⟨p0, p1⟩ := hcs k p hp
        obtain ⟨S1, hS1⟩ : ∃ S : ByteArray, S = ⟨p.1.toArray⟩ := ⟨_, rfl⟩
        obtain ⟨S2, hS2⟩ : ∃ S : ByteArray, S = ⟨p.2.toArray⟩ := ⟨_, rfl⟩
        have hpd := HD.out p (List.mem_of_getElem? hp)
        unfold strV at p0 p1
        rw [← hS1] at p0; rw [← hS2] at p1
        obtain ⟨w3, hw3, hb3, hfx, _, _⟩ := new_two wr (.string S1) (.string S2) 35
        have f0 := cell_of_heap hfx 0
        have f1 := cell_of_heap hfx 1
        have HFX := Lib.hid hfx; have HP := Lib.hid hp; have HS1 := Lib.hid hS1; have HS2 := Lib.hid hS2; have HPD := Lib.hid hpd
        have HB3 := Lib.hid (hbr.out.trans (hb3.mono hbr.out.size))
        have HK3 := Lib.hid (hkv.out.keep (w' := w3) (row' := (Value.slice a8 k c8).ownBlock) hb3.size (fun g hg hne => ⟨hb3.block g hg, hne⟩))
        have HO3 := Lib.hid (ownsRow_keep hown.out (fun g hg => hb3.block g (owns_lt hown.out g hg)))
        have HBV := Lib.hid ((Below.refl w3.heap.size w3).drew)
        clear hcs hfx hp hS1 hS2 hb3 hpd hkv hown
        go_upto_region 7 with fail
        go_region_law (first | (refine step_append_srcs rfl (.tmp 17) (.tmp 26) 48 48 rfl w1.heap.size 50 iN (.agg #[.bool false, .string ⟨#[]⟩, .slice none 0 0]) 3 48 Tryz.underlying48 HI.out.1 HI.out.2.1 HI.out.2.2.1 HI.out.2.2.2 rfl (by decide) _ (by first | (simp [Act.eval]; done) | (simp [Act.eval, Act.put]; done)) k _ HO8.out _ (by first | (simp [Act.eval]; done) | (simp [Act.eval, Act.put]; done)) _ _ HSRC.out (by unfold maxLen; omega) (by omega) HZ8.out ?_; intro a' c' w9 hown9 hgrow _ hblk; have HNEXT := Lib.hid hown9; have HGROW := Lib.hid hgrow; have HBLK := Lib.hid hblk; clear hown9 hgrow hblk) | (go_simp; go_at_call 22; refine (atom_any _ _).mono ?_; rintro e wA ⟨rfl, hbA⟩; have HBV := Lib.hid (HBV.out.trans (hbA.mono HBV.out.size)); have y0 := cell_of_heap ((HBV.out.block _ (lt_of_heap HFX.out)).trans HFX.out) 0; have y1 := cell_of_heap ((HBV.out.block _ (lt_of_heap HFX.out)).trans HFX.out) 1; clear hbA) | (go_simp; go_at_call 21; refine (filenode_any _ p S1 S2 HS1.out HS2.out HPD.out.1 HPD.out.2).mono ?_; rintro e wL ⟨gL, cL, rfl, hgL, hnL, hbL⟩; have HBA0 := Lib.hid HBV.out.size; have HBV := Lib.hid (HBV.out.trans (hbL.mono HBV.out.size)); have HNL := Lib.hid hnL; have HGL := Lib.hid hgL; have HBA := Lib.hid hbL;  have HSRC := Lib.hid (show Src Tryz.prog 3 48 (.slice (some ⟨wL.heap.size, 0, none⟩) 1 1) 1 [.bool false, .string ⟨#[]⟩, .slice (some ⟨gL, 0, none⟩) 2 cL] (wL.alloc (.cells #[.bool false, .string ⟨#[]⟩, .slice (some ⟨gL, 0, none⟩) 2 cL] 50)) from box_src (ts := [fileT p]) (heap_alloc_new wL (.cells #[.bool false, .string ⟨#[]⟩, .slice (some ⟨gL, 0, none⟩) 2 cL] 50)) ⟨hnL.node.below ((Below.refl _ _).alloc (Nat.le_refl _) _), trivial⟩ _ (Below.refl _ _)); have HO8 := Lib.hid (ownsRow_keep HO3.out (w' := wL.alloc (.cells #[.bool false, .string ⟨#[]⟩, .slice (some ⟨gL, 0, none⟩) 2 cL] 50)) (fun g hg => (Below.heap_alloc wL _ g (by have := owns_lt HO3.out g hg; have := HBV.out.size; omega)).trans (HBV.out.block g (owns_lt HO3.out g hg)))); have HZ8 := Lib.hid (show w1.heap.size ≤ (wL.alloc (.cells #[.bool false, .string ⟨#[]⟩, .slice (some ⟨gL, 0, none⟩) 2 cL] 50)).heap.size from by have := HBV.out.size; have := HB3.out.size; simp; omega); clear hnL hbL hgL))
        all_goals
          have hbx : Below wL.heap.size wL (wL.alloc (.cells #[.bool false, .string ⟨#[]⟩, .slice (some ⟨gL, 0, none⟩) 2 cL] 50)) := (Below.refl _ _).alloc (Nat.le_refl _) _
          have hsz : (wL.alloc (.cells #[.bool false, .string ⟨#[]⟩, .slice (some ⟨gL, 0, none⟩) 2 cL] 50)).heap.size = wL.heap.size + 1 := by simp
          have hnew : ∀ g, g < wL.heap.size → (Value.slice a8 k c8).ownBlock ≠ some g → w9.heap[g]? = wL.heap[g]? ∧ (Value.slice a' (k + 1) c').ownBlock ≠ some g := by
            intro g hg hne
            refine ⟨(HGROW.out.block g (by omega) (fun e => hne e.symm)).trans (hbx.block g hg), ?_⟩
            rcases HBLK.out with e | e
            · rw [e]; exact hne
            · rw [e, hsz]; intro e2; have := Option.some.inj e2; omega
          have hs9 : wL.heap.size ≤ w9.heap.size := Nat.le_trans (by omega) HGROW.out.size
          have hgne : (Value.slice a8 k c8).ownBlock ≠ some gL := fun e => by have := owns_lt HO3.out gL e; have := HGL.out; have := HBA0.out; omega
          have HF9 := Lib.hid (FilesV.snoc (hnew gL HNL.out.2.2.1 hgne).2 (HNL.out.keep hs9 (hnew gL HNL.out.2.2.1 hgne).1) ((HK3.out.keep (w' := wL) (row' := (Value.slice a8 k c8).ownBlock) HBV.out.size (fun g hg hne => ⟨HBV.out.block g hg, hne⟩)).keep hs9 hnew))
          have HB9 := Lib.hid (show Below w1.heap.size w1 w9 from grow_below (n := 0) (HB3.out.trans (HBV.out.mono HB3.out.size)) HGROW.out (fun g hg => owns_ge HO3.out g hg))
          clear hbx hsz hnew hs9 hgne
          go_wp2_with fail
          go_roundw
          case rel => exact ⟨k + 1, a', c', _, rfl, by go_num, hlt, by rw [takes_next HP.out]; exact HF9, HNEXT, HB9⟩
          case measure => simp [intOf]; omega
      · obtain rfl : k = n := by omega
        have hkv2 := hkv.out
        rw [List.take_of_length_le (by rw [← HN.out]; exact Nat.le_refl _)] at hkv2
        have hkk := hkv2.kids
        have hlen : k = (ts.map fileT).length := by rw [List.length_map]; exact HN.out
        have hcap := owns_cap hown.out
        have hli := list_any wr (ts.map fileT) a8 c8 xs hkk (by rw [← hlen]; omega) (by rw [← hlen]; exact hcap.1) (fun W h => by rw [← hlen]; exact own_src hown.out hlen hkk W h)
        unfold ListTo at hli
        rw [← hlen] at hli
        have HLI := Lib.hid hli; have HLEN := Lib.hid hlen
        clear hkv2 hkk hlen hcap hli hkv hown
        go_wp2_with fail
        refine HLI.out.mono ?_
        rintro e wL ⟨a7, c7, ys, rfl, hbL, hk7, ho7⟩
        have hnode := ListTo.node (ts := ts.map fileT) (a := a7) (c := c7) (by rw [← HLEN.out]; omega) hbL hk7 (by rw [← HLEN.out]; exact ho7)
        rw [← HLEN.out] at hnode
        have hbc := HB.out.trans ((hbr.out.trans (hbL.mono hbr.out.size)).mono HB.out.size)
        have hen := enc_any (nodeT ts) wL _ _ _ hnode (HT.out.below (hbr.out.trans (hbL.mono hbr.out.size)))
        rw [← HE.out, ← HX.out] at hen
        have HEN := Lib.hid hen; have HBC := Lib.hid hbc
        clear hnode hbL hk7 ho7 hbc hen
        go_wp2_with fail
        refine HEN.out.mono ?_
        rintro e w5 ⟨rfl, hb5⟩
        have HB5 := Lib.hid (HBC.out.trans (hb5.mono HBC.out.size))
        clear hb5
        go_wp2_with fail
        go_ret2
        exact ⟨rfl, HB5.out⟩
end Go.Proofs.YtjcimajkjnjdpabGreatDoor
