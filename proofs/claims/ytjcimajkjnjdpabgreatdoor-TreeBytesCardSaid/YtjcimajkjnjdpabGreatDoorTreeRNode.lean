/- DERIVED. The reference's Node and Encode, walked. -/
import Derived.Test.YtjcimajkjnjdpabGreatDoorTreeEnc
import Derived.Test.YtjcimajkjnjdpabGreatDoorTreeRefGood
import Derived.Test.YtjcimajkjnjdpabGreatDoorSexpRefPut
import Derived.Test.YtjcimajkjnjdpabGreatDoorTreePut
namespace Go.Proofs.YtjcimajkjnjdpabGreatDoor
open Go.RowKit
set_option linter.unusedVariables false
set_option maxRecDepth 100000

theorem owns_node {w : World} {base : Nat} {ts : List T} {a : Option Addr} {c : Nat} {xs : List Value} (hl : ts.length ≤ 140737488351232) (hk : KidsVA w ts xs) (ho : w.ownsRow base 50 3 (.slice a ts.length c) ts.length xs) :
    NodeAt w (.mk false [] ts) (.bool false) (.string ⟨#[]⟩) (.slice a ts.length c) := by
  unfold NodeAt
  have hcap := owns_cap ho
  rcases ho.2 with ⟨he, hx⟩ | ⟨g, cap, cur, he, hg0, hg, hn, hm, hc, ht⟩
  · obtain ⟨rfl, h0, rfl⟩ := Value.slice.inj he
    refine ⟨rfl, rfl, Nat.zero_le _, hl, none, 0, rfl, hcap.1, hcap.2, fun _ => rfl, .inl (List.eq_nil_of_length_eq_zero h0)⟩
  · obtain ⟨rfl, _, rfl⟩ := Value.slice.inj he
    refine ⟨rfl, rfl, Nat.zero_le _, hl, _, c, rfl, hcap.1, hcap.2, (fun h => (Option.some_ne_none _ h).elim), .inr ⟨g, 0, rfl, ?_⟩⟩
    refine KidsVA.kids hk fun i u hi => ?_
    rw [cell_of_heap hg, Nat.zero_add]
    rw [← ht, List.getElem?_take] at hi
    split at hi
    · simpa using hi
    · cases hi
theorem FilesV.keep5 {w w' : World} {row row' : Option Nat} (hs : w.heap.size ≤ w'.heap.size) (hb : ∀ g, g < w.heap.size → row ≠ some g → w.cell? ⟨g, 5, none⟩ = some (.slice none 0 0) → w'.heap[g]? = w.heap[g]? ∧ row' ≠ some g) : ∀ {ps : List Pr} {xs : List Value}, FilesV w row ps xs → FilesV w' row' ps xs
  | [], [], _ => trivial
  | p :: ps, v0 :: v1 :: v2 :: xs, h => by
    obtain ⟨⟨g, c, h0, h1, h2, h3, h4⟩, h5⟩ := h
    have hh := hb g h4.2.2.1 h3 (h4.2.2.2.2 5 _ rfl)
    exact ⟨⟨g, c, h0, h1, h2, hh.2, h4.keep hs hh.1⟩, FilesV.keep5 hs hb h5⟩
  | [], _ :: _, h => h.elim
  | _ :: _, [], h => h.elim
  | _ :: _, [_], h => h.elim
  | _ :: _, [_, _], h => h.elim
/-- A block of three cells is none that has a sixth. -/
theorem not_three {w : World} {b g : Nat} {x y z v : Value} {t : TypeId} {f : Nat × Nat} (h : w.heap[b]? = some (.cells #[x, y, z] t f)) (hg : w.cell? ⟨g, 5, none⟩ = some v) : g ≠ b := by
  rintro rfl
  rw [cell_of_heap h] at hg
  simp at hg
theorem file_cells {w : World} {g : Nat} {p : Pr} {t : TypeId} (h : w.heap[g]? = some (.cells #[.bool true, strV p.1, .slice none 0 0, .bool true, strV p.2, .slice none 0 0] t (0, 0))) (h1 : p.1.length ≤ 400000) (h2 : p.2.length ≤ 400000) : FileAt w g 2 p :=
  ⟨Nat.le_refl _, by unfold maxLen; omega, lt_of_heap h, ⟨h1, h2⟩, fun i u hi => by rw [cell_of_heap h]; unfold fileRow at hi; simpa using hi⟩
def TNodeTo (w : World) (ts : List Pr) (e : Ending) (w' : World) : Prop :=
  ∃ a c, e = .returned (.agg #[.bool false, .string ⟨#[]⟩, .slice a ts.length c]) ∧ NodeAt w' (nodeT ts) (.bool false) (.string ⟨#[]⟩) (.slice a ts.length c) ∧ Below w.heap.size w w'
theorem set3 {w : World} {b : Nat} (u v z : Value) (g : Nat) (h : g ≠ b) : (((w.setCell ⟨b, 0, none⟩ u).setCell ⟨b, 1, none⟩ v).setCell ⟨b, 2, none⟩ z).heap[g]? = w.heap[g]? := by
  rw [Below.heap_setCell _ _ _ _ (by simpa using h), Below.heap_setCell _ _ _ _ (by simpa using h), Below.heap_setCell _ _ _ _ (by simpa using h)]
set_option maxHeartbeats 16000000 in
theorem refnode_any (w : World) (a : Option Addr) (c : Nat) (ts : List Pr) (hr : RdFl w a ts) (hl : ts.length ≤ 1000000) (hsz : ∀ p ∈ ts, p.1.length ≤ 400000 ∧ p.2.length ≤ 400000) :
    Calls Tryz.prog 25 #[.agg #[.slice a ts.length c]] w (TNodeTo w ts) := by
  obtain ⟨w1, hw1, hb1, hx1, y1, y2⟩ := new_cell w (.slice a ts.length c) 24
  obtain ⟨w2, hw2, hb2, hx2, y3, y4⟩ := new_n w1 #[.bool false, .string ⟨#[]⟩, .slice none 0 0] 50
  obtain ⟨w3, hw3, hb3, hx3, y5, y6⟩ := new_n w2 #[.bool false, .string ⟨#[]⟩, .slice none 0 0] 50
  obtain ⟨n, hnn⟩ : ∃ n, n = ts.length := ⟨_, rfl⟩
  obtain ⟨b1, hbe1⟩ : ∃ b, w.heap.size = b := ⟨_, rfl⟩
  obtain ⟨b2, hbe2⟩ : ∃ b, w1.heap.size = b := ⟨_, rfl⟩
  obtain ⟨b3, hbe3⟩ : ∃ b, b = w2.heap.size := ⟨_, rfl⟩
  have hb12 := hb1.trans (hb2.mono hb1.size)
  have hb23 := hb2.trans (hb3.mono hb2.size)
  have hx13 := (hb23.block _ (by omega)).trans hx1
  have hx33 := hx3
  rw [← hnn, hbe1] at hx13; rw [hbe2] at hx2; rw [← hbe3] at hx33
  rw [← hnn] at hw1
  have p0 := cell_of_heap hx13 0
  rw [← hw3] at p0
  have hsize : b1 < b2 ∧ b2 < b3 ∧ b3 < w3.heap.size ∧ w2.heap.size = b3 ∧ w.heap.size = b1 ∧ w.heap.size ≤ w3.heap.size ∧ w.heap.size ≤ w2.heap.size := by omega
  have HSIZE := Lib.hid hsize; have HX3 := Lib.hid hx33; have HW3 := Lib.hid hw3; have HB3 := Lib.hid hbe3; have HN := Lib.hid hnn; have HSZ := Lib.hid hsz; have HX2 := Lib.hid hx2; have HBS := Lib.hid hb3
  have HR := Lib.hid (hr.below hb12)
  have HB := Lib.hid hb12
  have hnl : n ≤ 1000000 := by omega
  obtain ⟨iN, hiN, hz0, hz1, hz2⟩ := info_parts nodeInfo
  have HI := Lib.hid (And.intro hiN (And.intro hz0 (And.intro hz1 hz2)))
  rw [← hnn]
  unfold TNodeTo
  rw [← hnn]
  clear hb1 hb2 hb3 hx1 hx2 hx3 hx13 hx33 hb12 hb23 y1 y2 y3 y4 y5 y6 hsize hw3 hbe3 hnn hsz hr hl hiN hz0 hz1 hz2
  go_enter Tryz.func25, Tryz.ntmps25
  go_wp2_with fail
  rw [HW3.out, ← HB3.out]
  clear p0
  go_loopw [12] (fun x wr => ∃ (k : Nat) (a8 : Option Addr) (c8 : Nat) (xs : List Value), x = .int .i64 k ∧ k ≤ n ∧ Hid (FilesV wr (Value.slice a8 k c8).ownBlock (ts.take k) xs) ∧ Hid (wr.ownsRow w3.heap.size 50 3 (.slice a8 k c8) k xs) ∧ Hid (wr.heap[b3]? = some (.cells #[.bool false, .string ⟨#[]⟩, .slice a8 k c8] 50 (0, 0))) ∧ Hid (Below w2.heap.size w2 wr) ∧ Hid (w3.heap.size ≤ wr.heap.size)) (fun x _ => n - (intOf x).toNat)
  case atStart => exact ⟨0, none, 0, [], rfl, Nat.zero_le _, trivial, World.ownsRow_nil _ _ _ _, HX3, HBS, Nat.le_refl _⟩
  case round =>
    obtain ⟨k, a8, c8, xs, rfl, hkn, hkv, hown, hcell, hbr, hsz8⟩ := hrel
    by_cases hlt : k < n
    · obtain ⟨p, hp⟩ : ∃ p, ts[k]? = some p := ⟨_, List.getElem?_eq_getElem (by rw [← HN.out]; exact hlt)⟩
      obtain ⟨rb, o, rfl, _, hcs⟩ := HR.out.below hbr.out (fun e => by rw [e] at hp; cases hp)
      obtain ⟨p0, p1⟩ := hcs k p hp
      obtain ⟨S1, hS1⟩ : ∃ S : ByteArray, S = ⟨p.1.toArray⟩ := ⟨_, rfl⟩
      obtain ⟨S2, hS2⟩ : ∃ S : ByteArray, S = ⟨p.2.toArray⟩ := ⟨_, rfl⟩
      have hpd := HSZ.out p (List.mem_of_getElem? hp)
      unfold strV at p0 p1
      rw [← hS1] at p0; rw [← hS2] at p1
      obtain ⟨wA, hwA, hbA, hxA, z1, z2⟩ := new_two wr (.string S1) (.string S2) 35
      obtain ⟨wB, hwB, hbB, hxB, z3, z4⟩ := new_n wA #[.bool true, .string S1, .slice none 0 0] 50
      obtain ⟨wC, hwC, hbC, hxC, z5, z6⟩ := new_n wB #[.bool true, .string S2, .slice none 0 0] 50
      obtain ⟨wD, hwD, hbD, hxD, z7, z8⟩ := new_n wC #[.bool true, .string S1, .slice none 0 0, .bool true, .string S2, .slice none 0 0] 50
      obtain ⟨wE, hwE, hbE, hxE, z9, za⟩ := new_n wD #[.bool false, .string ⟨#[]⟩, .slice (some ⟨wC.heap.size, 0, none⟩) 2 2] 50
      have hAC := hbB.trans (hbC.mono hbB.size)
      have hrC := hbA.trans (hAC.mono hbA.size)
      have hrE := hrC.trans ((hbD.trans (hbE.mono hbD.size)).mono hrC.size)
      have f0 := cell_of_heap hxA 0
      have f1 := cell_of_heap ((hbB.block _ (by omega)).trans hxA) 1
      rw [← hwB] at f1
      have hxBC := (hbC.block _ (by omega)).trans hxB
      have e0 := cell_of_heap hxBC 0
      have e1 := cell_of_heap hxBC 1
      have e2 := cell_of_heap hxBC 2
      have hzB : wB.heap.size = wA.heap.size + 1 := by omega
      rw [hzB] at hxC
      have HWB := Lib.hid hwB; have HWC := Lib.hid hwC
      have d0 := cell_of_heap hxC 0
      have d1 := cell_of_heap hxC 1
      have d2 := cell_of_heap hxC 2
      have hcC := (hrC.block _ (lt_of_heap hcell.out)).trans hcell.out
      have g2 := cell_of_heap hcC 2
      have hfa : FileAt wE wC.heap.size 2 p := by
        have h := (hbE.block _ (lt_of_heap hxD)).trans hxD
        rw [show Value.string S1 = strV p.1 by rw [hS1]; rfl, show Value.string S2 = strV p.2 by rw [hS2]; rfl] at h
        exact file_cells h hpd.1 hpd.2
      have HFA := Lib.hid hfa
      have HSRC := Lib.hid (show Src Tryz.prog 3 48 (.slice (some ⟨wD.heap.size, 0, none⟩) 1 1) 1 [.bool false, .string ⟨#[]⟩, .slice (some ⟨wC.heap.size, 0, none⟩) 2 2] wE from box_src (ts := [fileT p]) hxE ⟨hfa.node, trivial⟩ _ (Below.refl _ _))
      have HOE := Lib.hid (ownsRow_keep hown.out (fun g hg => hrE.block g (owns_lt hown.out g hg)))
      have HCE := Lib.hid ((hrE.block _ (lt_of_heap hcell.out)).trans hcell.out)
      have HBE := Lib.hid (hbr.out.trans (hrE.mono hbr.out.size))
      have HFE := Lib.hid (FilesV.snoc (row := (Value.slice a8 k c8).ownBlock) (fun e => by have := owns_lt hown.out _ e; omega) hfa (hkv.out.keep (w' := wE) (row' := (Value.slice a8 k c8).ownBlock) hrE.size (fun g hg hne => ⟨hrE.block g hg, hne⟩)))
      have HZE := Lib.hid (show w3.heap.size ≤ wE.heap.size from Nat.le_trans hsz8.out hrE.size)
      have HP := Lib.hid hp
      have hk2 : k ≤ 1000000 := by omega
      clear hcs hxA hxB hxC hxD hxE hxBC hcC hp hS1 hS2 hpd hbA hbB hbC hbD hbE hAC hrC hrE z1 z2 z3 z4 z5 z6 z7 z8 z9 za hfa hkv hown hcell hbr hsz8 hzB hwB hwC
      go_upto_region 7 with fail
      rw [HWB.out, HWC.out]
      go_wp2_with (first | (at_builtin; refine wpList_append_srcs rfl (.tmp 23) (.tmp 28) 48 48 rfl w3.heap.size 50 iN (.agg #[.bool false, .string ⟨#[]⟩, .slice none 0 0]) 3 48 Tryz.underlying48 HI.out.1 HI.out.2.1 HI.out.2.2.1 HI.out.2.2.2 rfl (by decide) _ rfl k _ HOE.out _ rfl _ _ HSRC.out (by unfold maxLen; omega) (by omega) HZE.out ?_; intro a' c' w9 hown9 hgrow _ hblk; have HNEXT := Lib.hid hown9; have HGROW := Lib.hid hgrow; have HBLK := Lib.hid hblk; have hc9 : w9.heap[b3]? = some (.cells #[.bool false, .string ⟨#[]⟩, .slice a8 k c8] 50 (0, 0)) := (hgrow.block b3 (lt_of_heap HCE.out) (fun e => by have := owns_ge HOE.out b3 e.symm; have := HSIZE.out; omega)).trans HCE.out; have y0 := cell_of_heap hc9 2; have yf := frozen_of_heap hc9; have HC9 := Lib.hid hc9; clear hown9 hgrow hblk hc9) | fail)
      have hsz := HSIZE.out
      have hnew : ∀ g, g < wE.heap.size → (Value.slice a8 k c8).ownBlock ≠ some g → w9.heap[g]? = wE.heap[g]? ∧ (Value.slice a' (k + 1) c').ownBlock ≠ some g := by
        intro g hg hne
        refine ⟨HGROW.out.block g (by omega) (fun e => hne e.symm), ?_⟩
        rcases HBLK.out with e | e
        · rw [e]; exact hne
        · rw [e]; intro e2; have := Option.some.inj e2; omega
      have hF9 := HFE.out.keep HGROW.out.size hnew
      have hset : ∀ g, g ≠ b3 → (w9.setCell ⟨b3, 2, none⟩ (.slice a' (k + 1) c')).heap[g]? = w9.heap[g]? := fun g hg => Below.heap_setCell _ _ _ _ (by simpa using hg)
      have hFS := hF9.keep5 (w' := w9.setCell ⟨b3, 2, none⟩ (.slice a' (k + 1) c')) (row' := (Value.slice a' (k + 1) c').ownBlock) (by simp [World.setCell]) (fun g _ hne h5 => ⟨hset g (not_three HC9.out h5), hne⟩)
      have HFS := Lib.hid hFS
      have HOS := Lib.hid (ownsRow_keep (w' := w9.setCell ⟨b3, 2, none⟩ (.slice a' (k + 1) c')) HNEXT.out (fun g hg => hset g (by have := owns_ge HNEXT.out g hg; omega)))
      have HCS := Lib.hid (heap_setCell_here (i := 2) (.slice a' (k + 1) c') HC9.out)
      have HBS2 := Lib.hid ((below_grown HBE.out HGROW.out (fun g hg => by have := owns_ge HOE.out g hg; omega)).setCell (p := ⟨b3, 2, none⟩) (by show w2.heap.size ≤ b3; omega) (.slice a' (k + 1) c'))
      have HZS := Lib.hid (show w3.heap.size ≤ (w9.setCell ⟨b3, 2, none⟩ (.slice a' (k + 1) c')).heap.size from by have := HZE.out; have := HGROW.out.size; simp only [World.setCell, Array.size_modify]; omega)
      clear hsz hnew hF9 hset hFS y0 yf
      go_wp2_with fail
      go_roundw
      case rel => exact ⟨k + 1, a', c', _, by go_num, hlt, by rw [takes_next HP.out]; exact HFS, HOS, HCS, HBS2, HZS⟩
      case measure => simp [intOf]; omega
    · obtain rfl : k = n := by omega
      have hkv2 := hkv.out
      rw [List.take_of_length_le (by rw [← HN.out]; exact Nat.le_refl _)] at hkv2
      have hsz := HSIZE.out
      have hxb := (hbr.out.block b2 (by omega)).trans HX2.out
      have q0 := cell_of_heap hxb 0
      have q1 := cell_of_heap hxb 1
      have q2 := cell_of_heap hxb 2
      have qf := frozen_of_heap hxb
      have g0 := cell_of_heap hcell.out 0
      have g1 := cell_of_heap hcell.out 1
      have g2 := cell_of_heap hcell.out 2
      have hfin : ∀ u v z, NodeAt (((wr.setCell ⟨b2, 0, none⟩ u).setCell ⟨b2, 1, none⟩ v).setCell ⟨b2, 2, none⟩ z) (nodeT ts) (.bool false) (.string ⟨#[]⟩) (.slice a8 k c8) ∧ Below w.heap.size w (((wr.setCell ⟨b2, 0, none⟩ u).setCell ⟨b2, 1, none⟩ v).setCell ⟨b2, 2, none⟩ z) := by
        intro u v z
        have hF := hkv2.keep5 (w' := ((wr.setCell ⟨b2, 0, none⟩ u).setCell ⟨b2, 1, none⟩ v).setCell ⟨b2, 2, none⟩ z) (row' := (Value.slice a8 k c8).ownBlock) (by simp [World.setCell]) (fun g _ hne h5 => ⟨set3 u v z g (not_three hxb h5), hne⟩)
        have hO := ownsRow_keep (w' := ((wr.setCell ⟨b2, 0, none⟩ u).setCell ⟨b2, 1, none⟩ v).setCell ⟨b2, 2, none⟩ z) hown.out (fun g hg => set3 u v z g (by have := owns_ge hown.out g hg; omega))
        have hlen : k = (ts.map fileT).length := by rw [List.length_map]; exact HN.out
        refine ⟨?_, ?_⟩
        · rw [hlen] at hO ⊢
          exact owns_node (by rw [← hlen]; omega) hF.kids hO
        · have hx := HB.out.trans (hbr.out.mono HB.out.size)
          exact ((hx.setCell (p := ⟨b2, 0, none⟩) (by show w.heap.size ≤ b2; omega) u).setCell (p := ⟨b2, 1, none⟩) (by show w.heap.size ≤ b2; omega) v).setCell (p := ⟨b2, 2, none⟩) (by show w.heap.size ≤ b2; omega) z
      have HFIN := Lib.hid hfin
      clear hkv2 hkv hown hcell hfin hxb hsz
      go_wp2_with fail
      refine bodyPost_ret (v := .agg #[.bool false, .string ⟨#[]⟩, .slice a8 k c8]) (by simp [results, Tryz.results25, go_sem, q0, q1, q2]) rfl ?_
      exact ⟨a8, c8, rfl, (HFIN.out _ _ _).1, (HFIN.out _ _ _).2⟩
set_option maxHeartbeats 4000000 in
theorem rtenc_any (w : World) (a : Option Addr) (c : Nat) (ts : List Pr) (hr : RdFl w a ts) (hl : ts.length ≤ 1000000) (hsz : ∀ p ∈ ts, p.1.length ≤ 400000) (htab : Tab w) :
    Calls Tryz.prog 8 #[.agg #[.slice a ts.length c]] w (fun e w' => e = .returned (.tuple #[strV (bytesT ts).1, .int .i64 (bytesT ts).2]) ∧ Below w.heap.size w w') := by
  obtain ⟨w1, hw1, hb1, hx1, hz1, hz2⟩ := new_cell w (.slice a ts.length c) 24
  obtain ⟨n, hnn⟩ : ∃ n, n = ts.length := ⟨_, rfl⟩
  obtain ⟨b1, hbe1⟩ : ∃ b, w.heap.size = b := ⟨_, rfl⟩
  have hG := fun W (h : Below w1.heap.size w1 W) => rtgood_any W a c ts ((hr.below hb1).below h) hl hsz
  rw [hbe1] at hx1
  have hkeep : ∀ W, Below w1.heap.size w1 W → W.heap[b1]? = some (.cells #[.slice a n c] 24 (0, 0)) := fun W h => by
    rw [hnn]
    exact (h.block _ (by omega)).trans hx1
  obtain ⟨X, hX⟩ : ∃ X, X = bytesT ts := ⟨_, rfl⟩
  rw [← hX]
  rw [← hnn] at hG hw1 hl ⊢
  have HR := Lib.hid (hr.below hb1); have HN := Lib.hid hnn; have HB := Lib.hid hb1; have HX := Lib.hid hX; have HKEEP := Lib.hid hkeep
  have HT := Lib.hid (htab.below hb1)
  have k1 := cell_of_heap (hkeep w1 (Below.refl _ _)) 0
  clear hr hnn hb1 hX hkeep hx1 hz1 hz2 htab hsz
  have hG1 := hG w1 (Below.refl _ _)
  cases hg1 : goodT ts
  · have HE := Lib.hid (show bytesT ts = ([], 1) by unfold bytesT; rw [if_neg (by rw [hg1]; simp)])
    rw [hg1] at hG1
    have HG := Lib.hid hG1
    clear hG hg1 hG1
    go_enter Tryz.func8, Tryz.ntmps8
    go_wp2_with fail
    refine HG.out.mono ?_
    rintro e w4 ⟨rfl, h4⟩
    have HB4 := Lib.hid (HB.out.trans (h4.mono HB.out.size))
    clear h4 k1
    go_wp2_with fail
    go_ret2
    rw [HX.out, HE.out]
    exact ⟨rfl, HB4.out⟩
  · have HE := Lib.hid (show bytesT ts = encT (nodeT ts) by unfold bytesT; rw [if_pos hg1])
    rw [hg1] at hG1
    have HG := Lib.hid hG1
    have hfl := goodT_files hg1
    have hdat : ∀ p ∈ ts, p.1.length ≤ 400000 ∧ p.2.length ≤ 400000 := fun p hp => by
      have h1 := firstBad_none.1 hfl.2.1 p hp
      exact ⟨by have := good_short h1.1; omega, by have := h1.2; omega⟩
    have hND := fun W (h : Below w1.heap.size w1 W) => refnode_any W a c ts (HR.out.below h) (by rw [← HN.out]; exact hl) hdat
    unfold TNodeTo at hND
    rw [← HN.out] at hND
    have HND := Lib.hid hND
    clear hG hg1 hG1 hfl hdat hND
    go_enter Tryz.func8, Tryz.ntmps8
    go_wp2_with fail
    refine HG.out.mono ?_
    rintro e w2 ⟨rfl, h2⟩
    have H2 := Lib.hid h2
    clear k1
    have k2 := cell_of_heap (HKEEP.out w2 h2) 0
    clear h2
    go_wp2_with fail
    refine (HND.out w2 H2.out).mono ?_
    rintro e w3 ⟨a3, c3, rfl, hn3, h3⟩
    have H3 := Lib.hid (H2.out.trans (h3.mono H2.out.size))
    have hen := renc_any (nodeT ts) w3 _ _ _ hn3 (HT.out.below H3.out)
    rw [← HE.out, ← HX.out] at hen
    have HEN := Lib.hid hen
    clear hn3 h3 hen k2
    go_wp2_with fail
    refine HEN.out.mono ?_
    rintro e w5 ⟨rfl, hb5⟩
    have HB5 := Lib.hid (HB.out.trans ((H3.out.trans (hb5.mono H3.out.size)).mono HB.out.size))
    clear hb5
    go_wp2_with fail
    go_ret2
    exact ⟨rfl, HB5.out⟩
end Go.Proofs.YtjcimajkjnjdpabGreatDoor
