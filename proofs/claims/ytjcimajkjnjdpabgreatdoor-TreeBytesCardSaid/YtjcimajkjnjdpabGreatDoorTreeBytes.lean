/- DERIVED. The law TreeBytes, walked. -/
import Derived.Test.YtjcimajkjnjdpabGreatDoorTreeAlive
import Derived.Test.YtjcimajkjnjdpabGreatDoorMLeaf
import Derived.Test.YtjcimajkjnjdpabGreatDoorTreeRDec
import Derived.Deep.DeepCutAuto
namespace Go.Proofs.YtjcimajkjnjdpabGreatDoor
open Go.RowKit
set_option linter.unusedVariables false
set_option maxRecDepth 100000

theorem bytesT_good {ts : List Pr} {b : List UInt8} (h : bytesT ts = (b, 0)) : decM (treeD b) = (0, ts) := by
  unfold bytesT at h
  split at h
  · rename_i hg
    rw [tree_back hg h]
    rfl
  · cases (Prod.mk.inj h).2
theorem encT_len (t : T) : (encT t).1.length ≤ 65536 := by
  unfold encT
  cases hp : putT 0 [] t with
  | error e => exact Nat.zero_le _
  | ok c => exact putT_len t _ _ _ hp
theorem enc_len {ts : List Pr} {b : List UInt8} {f : Int} (h : bytesT ts = (b, f)) : b.length ≤ 65536 := by
  unfold bytesT at h
  split at h
  · have := encT_len (nodeT ts)
    rw [h] at this
    exact this
  · obtain ⟨rfl, _⟩ := Prod.mk.inj h
    simp
theorem treeD_sizes {s : List UInt8} : (decM (treeD s)).2.length ≤ 65536 ∧ ∀ p ∈ (decM (treeD s)).2, p.1.length ≤ 65536 := by
  cases hd : decT s with
  | error f =>
    rw [treeD_err hd]
    exact ⟨Nat.zero_le _, fun p hp => by cases hp⟩
  | ok t =>
    rw [treeD_ok hd]
    have hs := dec_sizes hd
    split
    · dsimp only
      rw [List.length_map]
      refine ⟨hs.1, fun p hp => ?_⟩
      obtain ⟨x, hx, rfl⟩ := List.mem_map.1 hp
      exact (hs.2 x hx).1
    · exact ⟨Nat.zero_le _, fun p hp => by cases hp⟩
theorem treeD_back {s : List UInt8} {qs : List Pr} (h : decM (treeD s) = (0, qs)) : bytesT qs = (s, 0) := by
  cases hd : treeD s with
  | error f =>
    rw [hd] at h
    have := (Prod.mk.inj h).1
    rcases treeD_errs hd with rfl | rfl | rfl <;> cases this
  | ok ps =>
    rw [hd] at h
    obtain rfl := (Prod.mk.inj h).2
    exact (back_tree hd).2
theorem rdec_eq (s : List UInt8) : decM (rtreeD s) = decM (treeD s) := by rw [rtreeD_eq]
theorem same_self (w : World) (a a' : Option Addr) (c c' : Nat) (ps : List Pr) (hr : RdFl w a ps) (hr' : RdFl w a' ps) (hl : ps.length ≤ 1000000) :
    Calls Tryz.prog 10 #[.agg #[.slice a ps.length c], .agg #[.slice a' ps.length c']] w (fun e w' => e = .returned (.bool true) ∧ Below w.heap.size w w') := by
  have h := same_any w a a' c c' ps ps hr hr' hl hl
  rw [decide_eq_true (p := ps = ps) rfl] at h
  exact h
set_option maxHeartbeats 16000000 in
theorem bytes_law (w : World) (a : Option Addr) (c : Nat) (ps : List Pr) (S : ByteArray) (hr : RdFl w a ps) (hs : Sl a ps.length c) (hsz : Sz ps) (hSm : S.size ≤ 140737488351232) (htab : Tab w) :
    Calls Tryz.prog 3 #[.agg #[.slice a ps.length c], .string S] w (fun e w' => e = .returned (.bool true) ∧ Below w.heap.size w w') := by
  obtain ⟨n, hnn⟩ : ∃ n, n = ps.length := ⟨_, rfl⟩
  have hG := fun W (h : Below w.heap.size w W) => great_any W a c ps (hr.below h) hsz
  have hnl : n ≤ 4398046511104 := by rw [hnn]; exact hsz.len
  rw [← hnn] at hG ⊢
  obtain ⟨w1, hw1, hb1, hx1, y1, y2⟩ := new_cell w (.slice a n c) 24
  obtain ⟨Ba, hBa⟩ : ∃ b, w.heap.size = b := ⟨_, rfl⟩
  rw [hBa] at hx1
  have hkeep : ∀ W, Below w1.heap.size w1 W → W.heap[Ba]? = some (.cells #[.slice a n c] 24 (0, 0)) := fun W h => (h.block _ (by omega)).trans hx1
  have HR := Lib.hid hr; have HS := Lib.hid hs; have HN := Lib.hid hnn; have HG := Lib.hid hG; have HT := Lib.hid htab
  have HB := Lib.hid hb1; have HKEEP := Lib.hid hkeep
  have k1 := cell_of_heap (hkeep w1 (Below.refl _ _)) 0
  have HEND := Lib.hid (show ∀ W, Below w1.heap.size w1 W → Below w.heap.size w W from fun W h => HB.out.trans (h.mono HB.out.size))
  have HENDB := Lib.hid (show ∀ W, Below w1.heap.size w1 W → Below Ba w W from fun W h => by have := HB.out.trans (h.mono HB.out.size); rw [hBa] at this; exact this)
  clear hr hs hnn hG hsz htab hb1 hx1 y1 y2 hkeep
  go_enter Tryz.func3, Tryz.ntmps3
  clear k1
  go_wp2_with fail
  refine (alive_any _ (HT.out.below HB.out)).mono ?_
  rintro e w4 ⟨rfl, h4⟩
  have H4 := Lib.hid h4
  have k1 := cell_of_heap (HKEEP.out w4 h4) 0
  clear h4
  go_wp2_with fail
  refine (HG.out w4 (HEND.out _ H4.out)).mono ?_
  rintro e w5 ⟨b1, rfl, hsm, h5⟩
  have H5 := Lib.hid (H4.out.trans (h5.mono H4.out.size)); have HSM := Lib.hid hsm
  clear h5 hsm k1
  cases b1
  case true =>
    go_wp2_with fail
    go_ret
    first | exact ⟨rfl, HEND.out _ H5.out⟩ | exact ⟨rfl, HENDB.out _ H5.out⟩
  by_cases hSb : 131072 < S.size
  · go_wp2_with fail
    go_ret
    first | exact ⟨rfl, HEND.out _ H5.out⟩ | exact ⟨rfl, HENDB.out _ H5.out⟩
  have hn200 : n ≤ 200 := by rw [HN.out]; exact (HSM.out (by trivial)).len
  have hea : ∀ p ∈ ps, p.1.length ≤ 400000 := fun p hp => by have := ((HSM.out (by trivial)).each p hp).1; omega
  have hrl : ∀ W, Below w1.heap.size w1 W → RdFl W a ps := fun W h => HR.out.below (HEND.out _ h)
  have hE := fun W (h : Below w1.heap.size w1 W) => tenc_any W a c ps (hrl W h) HS.out (by rw [← HN.out]; omega) hea (HT.out.below (HEND.out _ h))
  have hE' := fun W (h : Below w1.heap.size w1 W) => rtenc_any W a c ps (hrl W h) (by rw [← HN.out]; omega) hea (HT.out.below (HEND.out _ h))
  have hD := fun W (h : Below w1.heap.size w1 W) => tdec_any W S hSm (HT.out.below (HEND.out _ h))
  have hD' := fun W => rtdec_any W S hSm
  have hsame := fun W a1 c1 (h : Below w1.heap.size w1 W) (h1 : RdFl W a1 ps) => same_self W a1 a c1 c ps h1 (hrl W h) (by rw [← HN.out]; omega)
  rw [← HN.out] at hE hE' hsame
  cases hby : bytesT ps with
  | mk X f =>
  rw [hby] at hE hE'
  have hXl := enc_len hby
  obtain ⟨A, hA⟩ : ∃ A : ByteArray, strV X = .string A ∧ A.data.toList = X := ⟨⟨X.toArray⟩, rfl, by simp⟩
  have hAs : A.size ≤ 140737488351232 := by
    have : A.size = X.length := by rw [← hA.2]; simp
    omega
  have hDA := fun W (h : Below w1.heap.size w1 W) => tdec_any W A hAs (HT.out.below (HEND.out _ h))
  have hgood : f = 0 → decM (treeD A.data.toList) = (0, ps) := fun h => by rw [hA.2]; exact bytesT_good (by rw [hby, h])
  dsimp only at hE hE'
  rw [hA.1] at hE hE'
  have hszd := treeD_sizes (s := S.data.toList)
  have hbk := fun qs (h : decM (treeD S.data.toList) = (0, qs)) => treeD_back h
  rw [rdec_eq] at hD'
  cases hdc : decM (treeD S.data.toList) with
  | mk x qs =>
  rw [hdc] at hD hD' hszd
  dsimp only at hszd
  obtain ⟨m, hm⟩ : ∃ m, m = qs.length := ⟨_, rfl⟩
  have hm6 : m ≤ 65536 := by rw [hm]; exact hszd.1
  have heq : ∀ p ∈ qs, p.1.length ≤ 400000 := fun p hp => by have := hszd.2 p hp; omega
  unfold MakeTo at hD hD' hDA
  dsimp only at hD hD'
  rw [← hm] at hD hD'
  have hbk2 : x = 0 → bytesT qs = (S.data.toList, 0) := fun h => hbk qs (by rw [hdc, h])
  have hq2 := fun W a1 c1 a2 c2 (h1 : RdFl W a1 qs) (h2 : RdFl W a2 qs) => same_self W a1 a2 c1 c2 qs h1 h2 (by omega)
  have hE2 := fun W a1 c1 (h : Below w1.heap.size w1 W) (h1 : RdFl W a1 qs) (h2 : Sl a1 qs.length c1) => tenc_any W a1 c1 qs h1 h2 (by omega) heq (HT.out.below (HEND.out _ h))
  rw [← hm] at hq2 hE2
  have hgg : (A.toList == A.toList) = true := by simp
  have hff : (f != f) = false := by simp
  have hxx : (x != x) = false := by simp
  have HE := Lib.hid hE; have HE' := Lib.hid hE'; have HD := Lib.hid hD; have HD' := Lib.hid hD'; have HDA := Lib.hid hDA; have HGO := Lib.hid hgood; have HSAME := Lib.hid hsame; have HQ2 := Lib.hid hq2; have HE2 := Lib.hid hE2; have HBK := Lib.hid hbk2; have HM := Lib.hid hm
  clear hE hE' hD hD' hDA hgood hsame hq2 hE2 hbk2 hbk hm hszd hdc hby hA heq hea hrl
  have k1 := cell_of_heap (HKEEP.out w5 H5.out) 0
  go_wp2_with fail
  refine (HE.out w5 H5.out).mono ?_
  rintro e w6 ⟨rfl, h6⟩
  have H6 := Lib.hid (H5.out.trans (h6.mono H5.out.size))
  clear h6 k1
  have k1 := cell_of_heap (HKEEP.out w6 H6.out) 0
  go_wp2_with fail
  refine (HE'.out w6 H6.out).mono ?_
  rintro e w7 ⟨rfl, h7⟩
  have H7 := Lib.hid (H6.out.trans (h7.mono H6.out.size))
  clear h7 k1
  go_upto_if 42 with fail
  go_cut [10] (fun _ wx => Hid (Below w7.heap.size w7 wx))
  case first =>
    by_cases h0 : f = 0
    · have hda := HDA.out w7 H7.out
      rw [HGO.out h0] at hda
      dsimp only at hda
      rw [← HN.out] at hda
      subst h0
      have HDX := Lib.hid hda
      clear hda
      go_wp2_with fail
      refine HDX.out.mono ?_
      rintro e w8 ⟨a1, c1, rfl, hrow, h8⟩
      obtain ⟨w9, hw9, hb9, hx9, z1, z2⟩ := new_cell w8 (.slice a1 n c1) 24
      have h79 := h8.trans (hb9.mono h8.size)
      have HSX := Lib.hid (HSAME.out w9 a1 c1 (H7.out.trans (h79.mono H7.out.size)) (hrow.below hb9).rd)
      have k1 := cell_of_heap (HKEEP.out w9 (H7.out.trans (h79.mono H7.out.size))) 0
      have k2 := cell_of_heap hx9 0
      have H79 := Lib.hid h79
      clear hrow h8 hb9 hx9 h79 z1 z2
      go_wp2_with fail
      refine HSX.out.mono ?_
      rintro e w10 ⟨rfl, h10⟩
      have HX10 := Lib.hid (H79.out.trans (h10.mono H79.out.size))
      clear h10 k1 k2
      go_wp2_with fail
      go_meet
      exact HX10
    · have hxb : (f == 0) = false := beq_eq_false_iff_ne.2 h0
      go_wp2_with fail
      go_meet
      exact Below.refl _ _
  obtain ⟨wd, hwd⟩ : ∃ W, W = wc := ⟨_, rfl⟩
  subst hwd
  have HBD := Lib.hid (H7.out.trans (hcut.out.mono H7.out.size))
  clear hcut
  have k1 := cell_of_heap (HKEEP.out wd HBD.out) 0
  go_wp2_with fail
  refine (HD.out wd HBD.out).mono ?_
  rintro e w8 ⟨a1, c1, rfl, hrow, h8⟩
  obtain ⟨w9, hw9, hb9, hx9, z1, z2⟩ := new_cell w8 (.slice a1 m c1) 24
  have hd9 := h8.trans (hb9.mono h8.size)
  have H9 := Lib.hid (HBD.out.trans (hd9.mono HBD.out.size))
  have HR9 := Lib.hid (hrow.below hb9); have HX9 := Lib.hid hx9
  clear hrow h8 hb9 hx9 hd9 z1 z2 k1
  go_wp2_with fail
  refine (HD'.out w9).mono ?_
  rintro e w10 ⟨a2, c2, rfl, hrow, h10⟩
  obtain ⟨w11, hw11, hb11, hx11, z1, z2⟩ := new_cell w10 (.slice a2 m c2) 24
  have hd11 := h10.trans (hb11.mono h10.size)
  have H11 := Lib.hid (H9.out.trans (hd11.mono H9.out.size))
  have hx9' := (hd11.block _ (lt_of_heap HX9.out)).trans HX9.out
  have k2 := cell_of_heap hx9' 0
  have k3 := cell_of_heap hx11 0
  have HX11 := Lib.hid hx9'
  have HR11 := Lib.hid (HR9.out.below hd11)
  have HSX := Lib.hid (HQ2.out w11 a1 c1 a2 c2 (HR9.out.below hd11).rd (hrow.below hb11).rd)
  clear hrow h10 hb11 hx11 hd11 hx9' z1 z2
  go_wp2_with fail
  refine HSX.out.mono ?_
  rintro e w12 ⟨rfl, h12⟩
  have H12 := Lib.hid (H11.out.trans (h12.mono H11.out.size))
  by_cases hx0 : x = 0
  · have hbk := HBK.out hx0
    have hen := HE2.out w12 a1 c1 H12.out (HR11.out.below h12).rd (by rw [HM.out]; exact HR11.out.sl)
    rw [hbk] at hen
    dsimp only at hen
    rw [show strV S.data.toList = .string S by unfold strV; cases S; simp] at hen
    subst hx0
    have hss : (S.toList == S.toList) = true := by simp
    have k4 := cell_of_heap ((h12.block _ (lt_of_heap HX11.out)).trans HX11.out) 0
    have HEN := Lib.hid hen
    clear hen hbk h12 k2 k3
    go_wp2_with fail
    refine HEN.out.mono ?_
    rintro e w13 ⟨rfl, h13⟩
    have H13 := Lib.hid (H12.out.trans (h13.mono H12.out.size))
    clear h13 k4
    go_wp2_with fail
    go_ret
    first | exact ⟨rfl, HEND.out _ H13.out⟩ | exact ⟨rfl, HENDB.out _ H13.out⟩
  · have hxn : (x != 0) = true := by simpa using hx0
    clear h12 k2 k3
    go_wp2_with fail
    go_ret
    first | exact ⟨rfl, HEND.out _ H12.out⟩ | exact ⟨rfl, HENDB.out _ H12.out⟩
end Go.Proofs.YtjcimajkjnjdpabGreatDoor
