/- DERIVED. The law TreeBack, walked. (Printed by backgen.py.) -/
import Derived.Test.YtjcimajkjnjdpabGreatDoorTreeAlive
import Derived.Test.YtjcimajkjnjdpabGreatDoorTreeGreat
import Derived.Test.YtjcimajkjnjdpabGreatDoorTreeGetW
import Derived.Test.YtjcimajkjnjdpabGreatDoorTreeBackLaw
import Derived.Test.YtjcimajkjnjdpabGreatDoorTreeRefGood
import Derived.Test.YtjcimajkjnjdpabGreatDoorTreeArgT
import Derived.Test.YtjcimajkjnjdpabGreatDoorTreeTab
import Derived.Test.YtjcimajkjnjdpabGreatDoorTreeFile
import Derived.Deep.DeepCutAuto
namespace Go.Proofs.YtjcimajkjnjdpabGreatDoor
open Go.RowKit
set_option linter.unusedVariables false
set_option maxRecDepth 100000

set_option maxHeartbeats 16000000 in
theorem back_law (w : World) (a b : Option Addr) (c d : Nat) (ps qs : List Pr) (f : Pr) (hr : RdFl w a ps) (hs : Sl a ps.length c) (hsz : Sz ps) (hr' : RdFl w b qs) (hs' : Sl b qs.length d) (hsz' : Sz qs)
    (hf1 : f.1.length ≤ 140737488351232) (hf2 : f.2.length ≤ 140737488351232) (htab : Tab w) :
    Calls Tryz.prog 4 #[.agg #[.slice a ps.length c], .agg #[strV f.1, strV f.2], .agg #[.slice b qs.length d]] w (fun e w' => e = .returned (.bool true) ∧ Below w.heap.size w w') := by
  obtain ⟨n, hnn⟩ : ∃ n, n = ps.length := ⟨_, rfl⟩
  obtain ⟨m, hmm⟩ : ∃ m, m = qs.length := ⟨_, rfl⟩
  have hG := fun W (h : Below w.heap.size w W) => great_any W a c ps (hr.below h) hsz
  have hG' := fun W (h : Below w.heap.size w W) => great_any W b d qs (hr'.below h) hsz'
  have hnl : n ≤ 4398046511104 := by rw [hnn]; exact hsz.len
  have hml : m ≤ 4398046511104 := by rw [hmm]; exact hsz'.len
  rw [← hnn] at hG ⊢
  rw [← hmm] at hG' ⊢
  have hsf : Sz [f] := ⟨fun p hp => by obtain rfl := List.mem_singleton.1 hp; exact ⟨hf1, hf2⟩, by simp⟩
  obtain ⟨S1, hS1⟩ : ∃ S : ByteArray, S = ⟨f.1.toArray⟩ := ⟨_, rfl⟩
  obtain ⟨S2, hS2⟩ : ∃ S : ByteArray, S = ⟨f.2.toArray⟩ := ⟨_, rfl⟩
  have hsv : strV f.1 = .string S1 ∧ strV f.2 = .string S2 := ⟨by rw [hS1]; rfl, by rw [hS2]; rfl⟩
  rw [hsv.1, hsv.2]
  obtain ⟨w1, hw1, hb1, hx1, y1, y2⟩ := new_cell w (.slice a n c) 24
  obtain ⟨w2, hw2, hb2, hx2, y3, y4⟩ := new_two w1 (.string S1) (.string S2) 35
  obtain ⟨w3, hw3, hb3, hx3, y5, y6⟩ := new_cell w2 (.slice b m d) 24
  obtain ⟨Ba, hBa⟩ : ∃ b, w.heap.size = b := ⟨_, rfl⟩
  obtain ⟨Bf, hBf⟩ : ∃ b, w1.heap.size = b := ⟨_, rfl⟩
  obtain ⟨Bb, hBb⟩ : ∃ b, w2.heap.size = b := ⟨_, rfl⟩
  have hb23 := hb2.trans (hb3.mono hb2.size)
  have hb13 := hb1.trans (hb23.mono hb1.size)
  have hx13 := (hb23.block _ (by omega)).trans hx1
  have hx23 := (hb3.block _ (by omega)).trans hx2
  rw [hBa] at hx13; rw [hBf] at hx23; rw [hBb] at hx3
  have hkeep : ∀ W, Below w3.heap.size w3 W → W.heap[Ba]? = some (.cells #[.slice a n c] 24 (0, 0)) ∧ W.heap[Bb]? = some (.cells #[.slice b m d] 24 (0, 0)) ∧ W.heap[Bf]? = some (.cells #[.string S1, .string S2] 35 (0, 0)) := fun W h =>
    ⟨(h.block _ (by omega)).trans hx13, (h.block _ (by omega)).trans hx3, (h.block _ (by omega)).trans hx23⟩
  have HR := Lib.hid hr; have HS := Lib.hid hs; have HN := Lib.hid hnn; have HG := Lib.hid hG; have HT := Lib.hid htab
  have HR' := Lib.hid hr'; have HS' := Lib.hid hs'; have HN' := Lib.hid hmm; have HG' := Lib.hid hG'
  have HB := Lib.hid hb13; have HKEEP := Lib.hid hkeep; have HSF := Lib.hid hsf; have HSV := Lib.hid hsv; have HS1 := Lib.hid hS1; have HS2 := Lib.hid hS2
  have k1 := cell_of_heap (hkeep w3 (Below.refl _ _)).1 0
  clear hr hs hnn hG hsz htab hr' hs' hmm hG' hsz' hb1 hb2 hb3 hb23 hb13 hx1 hx2 hx3 hx13 hx23 y1 y2 y3 y4 y5 y6 hkeep hsf hsv hS1 hS2 hf1 hf2
  have HEND := Lib.hid (show ∀ W, Below w3.heap.size w3 W → Below w.heap.size w W from fun W h => HB.out.trans (h.mono HB.out.size))
  have HENDB := Lib.hid (show ∀ W, Below w3.heap.size w3 W → Below Ba w W from fun W h => by have := HB.out.trans (h.mono HB.out.size); rw [hBa] at this; exact this)
  go_enter Tryz.func4, Tryz.ntmps4
  clear k1
  go_wp2_with fail
  refine (alive_any _ (HT.out.below HB.out)).mono ?_
  rintro e w4 ⟨rfl, h4⟩
  have H4 := Lib.hid h4
  have k1 := cell_of_heap (HKEEP.out w4 h4).1 0
  clear h4
  go_wp2_with fail
  refine (HG.out w4 (HEND.out _ H4.out)).mono ?_
  rintro e w5 ⟨b1, rfl, hsm, h5⟩
  have H5 := Lib.hid (H4.out.trans (h5.mono H4.out.size)); have HSM := Lib.hid hsm
  clear h5 hsm k1
  cases b1
  case true =>
    go_wp2_with fail
    go_ret
    first | exact ⟨rfl, HEND.out _ H5.out⟩ | exact ⟨rfl, HENDB.out _ H5.out⟩
  have k2 := cell_of_heap (HKEEP.out w5 H5.out).2.1 0
  go_wp2_with fail
  refine (HG'.out w5 (HEND.out _ H5.out)).mono ?_
  rintro e w6 ⟨b2, rfl, hsm, h6⟩
  have H6 := Lib.hid (H5.out.trans (h6.mono H5.out.size)); have HSM' := Lib.hid hsm
  clear h6 hsm k2
  cases b2
  case true =>
    go_wp2_with fail
    go_ret
    first | exact ⟨rfl, HEND.out _ H6.out⟩ | exact ⟨rfl, HENDB.out _ H6.out⟩
  have k3 := cell_of_heap (HKEEP.out w6 H6.out).2.2 0
  have k4 := cell_of_heap (HKEEP.out w6 H6.out).2.2 1
  obtain ⟨w7, hw7, hb7, hx7, _, _⟩ := new_two w6 (.string S1) (.string S2) 35
  have hx7' := hx7
  rw [← HSV.out.1, ← HSV.out.2] at hx7'
  have HGF := Lib.hid (great_any w7 (some ⟨w6.heap.size, 0, none⟩) 1 [f] (rdFl_one hx7') HSF.out)
  have H7 := Lib.hid (H6.out.trans (hb7.mono H6.out.size))
  clear hb7 hx7 hx7'
  go_wp2_with fail
  refine HGF.out.mono ?_
  rintro e w8 ⟨b3, rfl, hsm, h8⟩
  have H8 := Lib.hid (H7.out.trans (h8.mono H7.out.size)); have HSMF := Lib.hid hsm
  clear h8 hsm k3 k4
  cases b3
  case true =>
    go_wp2_with fail
    go_ret
    first | exact ⟨rfl, HEND.out _ H8.out⟩ | exact ⟨rfl, HENDB.out _ H8.out⟩
  have hn200 : n ≤ 200 := by rw [HN.out]; exact (HSM.out (by trivial)).len
  have hm200 : m ≤ 200 := by rw [HN'.out]; exact (HSM'.out (by trivial)).len
  have hea : ∀ p ∈ ps, p.1.length ≤ 400000 := fun p hp => by have := ((HSM.out (by trivial)).each p hp).1; omega
  have heb : ∀ p ∈ qs, p.1.length ≤ 400000 := fun p hp => by have := ((HSM'.out (by trivial)).each p hp).1; omega
  have hfl : f.1.length ≤ 400000 := by have := ((HSMF.out (by trivial)).each f (by simp)).1; omega
  have hS1s : S1.size ≤ 400000 := by rw [HS1.out, str_size]; exact hfl
  have hS1d : S1.data.toList = f.1 := by rw [HS1.out]
  have hrl : ∀ W, Below w3.heap.size w3 W → RdFl W a ps ∧ RdFl W b qs := fun W h => ⟨HR.out.below (HEND.out _ h), HR'.out.below (HEND.out _ h)⟩
  have hA := fun W (h : Below w3.heap.size w3 W) => put_tree W a c ps f (hrl W h).1 HS.out (by rw [← HN.out]; omega) hea hfl
  have hle : (putT2 ps f).2.length ≤ 1000000 := by
    unfold putT2
    split
    · have h1 := makeT_le (ps.filter (fun g => g.1 != f.1) ++ [f])
      have h2 := List.length_filter_le (fun g : Pr => g.1 != f.1) ps
      have := HN.out
      simp at h1
      omega
    · simp
  have hC := fun W (h : Below w3.heap.size w3 W) => cut_tree W a c ps S1 (hrl W h).1 HS.out (by rw [← HN.out]; omega) hea hS1s
  have hMt := fun W (h : Below w3.heap.size w3 W) => mount_any W a b c d ps qs S1 (hrl W h).1 HS.out (hrl W h).2 HS'.out (by rw [← HN.out]; omega) (by rw [← HN'.out]; omega) hea heb hS1s
  have hGd := fun W => good_any S1 W (by omega)
  have hGt := fun W (h : Below w3.heap.size w3 W) => rtgood_any W a c ps (hrl W h).1 (by rw [← HN.out]; omega) hea
  rw [hS1d] at hC hMt hGd
  rw [← HN.out] at hA hC hMt hGt
  rw [← HN'.out] at hMt
  have hgq := good_srt (t := (putT2 ps f).2)
  have hput := fun u (h : putT2 ps f = (0, u)) => put_got h
  cases hx1 : putT2 ps f with
  | mk x1 r1 =>
  rw [hx1] at hA hle
  have hsr : x1 = 0 → Srt r1 := fun h => by
    subst h
    refine good_srt ?_
    unfold putT2 at hx1
    split at hx1
    · exact makeT_good hx1
    · cases (Prod.mk.inj hx1).1
  have hpg : x1 = 0 → getT r1 f.1 = (f.2, true) ∧ ∀ g ∈ ps, g.1 ≠ f.1 → getT r1 g.1 = (g.2, true) := fun h => hput r1 (by rw [hx1, h])
  obtain ⟨n1, hn1⟩ : ∃ k, k = r1.length := ⟨_, rfl⟩
  unfold MakeTo at hA
  dsimp only at hA hle
  rw [← hn1, HSV.out.1, HSV.out.2] at hA
  have HA := Lib.hid hA; have HLE := Lib.hid hle; have HN1 := Lib.hid hn1; have HSR := Lib.hid hsr; have HPG := Lib.hid hpg
  have HCU := Lib.hid hC; have HMT := Lib.hid hMt; have HGD := Lib.hid hGd; have HGT := Lib.hid hGt; have HEA := Lib.hid hea; have HRL := Lib.hid hrl; have HS1D := Lib.hid hS1d; have HEB := Lib.hid heb
  clear hA hle hn1 hsr hpg hput hgq hx1 hC hMt hGd hGt hea heb hfl hrl hS1d
  have k1 := cell_of_heap (HKEEP.out w8 H8.out).1 0
  have k2 := cell_of_heap (HKEEP.out w8 H8.out).2.1 0
  have k3 := cell_of_heap (HKEEP.out w8 H8.out).2.2 0
  have k4 := cell_of_heap (HKEEP.out w8 H8.out).2.2 1
  go_wp2_with fail
  refine (HA.out w8 H8.out).mono ?_
  rintro e w9 ⟨a9, c9, rfl, hrow9, h9⟩
  obtain ⟨w10, hw10, hb10, hx10, z1, z2⟩ := new_cell w9 (.slice a9 n1 c9) 24
  have hb90 := h9.trans (hb10.mono h9.size)
  have H10 := Lib.hid (H8.out.trans (hb90.mono H8.out.size))
  have HX10 := Lib.hid hx10; have HR9 := Lib.hid (hrow9.below hb10)
  have HZ9 := Lib.hid (show w3.heap.size ≤ w9.heap.size ∧ w9.heap.size < w10.heap.size from ⟨Nat.le_trans H8.out.size h9.size, by omega⟩)
  clear k1 k2 k3 k4 h9 hrow9 hb10 hx10 z1 z2 hb90
  go_upto_if 36 with fail
  go_cut [9] (fun x wx => Hid (Below w10.heap.size w10 wx))
  case first =>
    by_cases hx0 : x1 = 0
    · subst hx0
      have hget := fun W (h : Below w10.heap.size w10 W) (k : List UInt8) => tget_any W a9 c9 r1 k ((HR9.out.below h).rd) (HSR.out rfl) HLE.out
      rw [← HN1.out] at hget
      obtain ⟨hp1, hp2⟩ := HPG.out rfl
      have hg1 := fun W (h : Below w10.heap.size w10 W) => hget W h f.1
      rw [hp1] at hg1
      dsimp only at hg1
      rw [HSV.out.1, HSV.out.2] at hg1
      have hss : (S2.toList == S2.toList) = true := by simp
      have HGE := Lib.hid hget; have HG1 := Lib.hid hg1; have HP2 := Lib.hid hp2
      clear hget hg1 hp1 hp2
      have q7 := cell_of_heap HX10.out 0
      have k1 := cell_of_heap (HKEEP.out w10 H10.out).1 0
      have k2 := cell_of_heap (HKEEP.out w10 H10.out).2.1 0
      have k3 := cell_of_heap (HKEEP.out w10 H10.out).2.2 0
      have k4 := cell_of_heap (HKEEP.out w10 H10.out).2.2 1
      go_wp2_with fail
      refine (HG1.out w10 (Below.refl _ _)).mono ?_
      rintro e w11 ⟨rfl, h11⟩
      have H11 := Lib.hid h11
      have H11b := Lib.hid (H10.out.trans (h11.mono H10.out.size))
      clear q7 k1 k2 k3 k4 h11
      have k1 := cell_of_heap (HKEEP.out w11 H11b.out).1 0
      have k2 := cell_of_heap (HKEEP.out w11 H11b.out).2.1 0
      have k3 := cell_of_heap (HKEEP.out w11 H11b.out).2.2 0
      have k4 := cell_of_heap (HKEEP.out w11 H11b.out).2.2 1
      go_wp2_with fail
      clear k1 k2 k3 k4 hss
      go_loopw [55] (fun x wr => ∃ k : Nat, x = .int .i64 k ∧ k ≤ n ∧ Hid (Below w10.heap.size w10 wr)) (fun x _ => n - (intOf x).toNat)
      case atStart => exact ⟨0, rfl, Nat.zero_le _, H11⟩
      case round =>
        obtain ⟨k, rfl, hkn, hbr⟩ := hrel
        have HB3 := Lib.hid (H10.out.trans (hbr.out.mono H10.out.size))
        by_cases hlt : k < n
        · obtain ⟨p, hp⟩ : ∃ p, ps[k]? = some p := ⟨_, List.getElem?_eq_getElem (by rw [← HN.out]; exact hlt)⟩
          obtain ⟨rb, o, rfl, _, hcs⟩ := (HRL.out wr HB3.out).1 (fun e => by rw [e] at hp; cases hp)
          obtain ⟨p0, p1⟩ := hcs k p hp
          obtain ⟨G1, hG1⟩ : ∃ S : ByteArray, S = ⟨p.1.toArray⟩ := ⟨_, rfl⟩
          obtain ⟨G2, hG2⟩ : ∃ S : ByteArray, S = ⟨p.2.toArray⟩ := ⟨_, rfl⟩
          have hgv : strV p.1 = .string G1 ∧ strV p.2 = .string G2 := ⟨by rw [hG1]; rfl, by rw [hG2]; rfl⟩
          obtain ⟨R, hR⟩ : ∃ R, R = decide (p.1 = f.1) := ⟨_, rfl⟩
          have he : (G1.toList == S1.toList) = R := by rw [eq_bytes, hG1, HS1.out, hR]
          rw [hgv.1] at p0; rw [hgv.2] at p1
          obtain ⟨w12, hw12, hb12, hfx, _, _⟩ := new_two wr (.string G1) (.string G2) 35
          have f0 := cell_of_heap hfx 0
          have HFX := Lib.hid hfx
          have HB12 := Lib.hid (hbr.out.trans (hb12.mono hbr.out.size))
          have HB12b := Lib.hid (HB3.out.trans (hb12.mono HB3.out.size))
          have hgk := HGE.out w12 HB12.out p.1
          rw [hgv.1] at hgk
          have q7 := cell_of_heap ((HB12.out.block _ (lt_of_heap HX10.out)).trans HX10.out) 0
          cases R
          · have hne : p.1 ≠ f.1 := by simpa using hR.symm
            rw [HP2.out p (List.mem_of_getElem? hp) hne] at hgk
            dsimp only at hgk
            rw [hgv.2] at hgk
            have HGK := Lib.hid hgk
            have hgg : (G2.toList == G2.toList) = true := by simp
            clear hcs hp hG1 hG2 hgv hR hb12 hfx hgk hne
            go_wp2_with fail
            refine HGK.out.mono ?_
            rintro e w13 ⟨rfl, h13⟩
            have HB13 := Lib.hid (HB12.out.trans (h13.mono HB12.out.size))
            have HB13b := Lib.hid (HB12b.out.trans (h13.mono HB12b.out.size))
            have f2 := cell_of_heap ((h13.block _ (lt_of_heap HFX.out)).trans HFX.out) 0
            have f3 := cell_of_heap ((h13.block _ (lt_of_heap HFX.out)).trans HFX.out) 1
            clear h13 q7 f0
            have k1 := cell_of_heap (HKEEP.out w13 HB13b.out).1 0
            have k2 := cell_of_heap (HKEEP.out w13 HB13b.out).2.1 0
            have k3 := cell_of_heap (HKEEP.out w13 HB13b.out).2.2 0
            have k4 := cell_of_heap (HKEEP.out w13 HB13b.out).2.2 1
            go_wp2_with fail
            go_roundw
            case rel => exact ⟨k + 1, by go_num, hlt, HB13⟩
            case measure => simp [intOf]; omega
          · obtain ⟨V, b0, hV⟩ : ∃ (V : ByteArray) (b0 : Bool), V = ⟨(getT r1 p.1).1.toArray⟩ ∧ b0 = (getT r1 p.1).2 := ⟨_, _, rfl, rfl⟩
            unfold strV at hgk
            rw [← hV.1, ← hV.2] at hgk
            have HGK := Lib.hid hgk
            clear hcs hp hG1 hG2 hgv hR hb12 hfx hgk hV
            go_wp2_with fail
            refine HGK.out.mono ?_
            rintro e w13 ⟨rfl, h13⟩
            have HB13 := Lib.hid (HB12.out.trans (h13.mono HB12.out.size))
            have HB13b := Lib.hid (HB12b.out.trans (h13.mono HB12b.out.size))
            have f2 := cell_of_heap ((h13.block _ (lt_of_heap HFX.out)).trans HFX.out) 0
            have f3 := cell_of_heap ((h13.block _ (lt_of_heap HFX.out)).trans HFX.out) 1
            clear h13 q7 f0
            have k1 := cell_of_heap (HKEEP.out w13 HB13b.out).1 0
            have k2 := cell_of_heap (HKEEP.out w13 HB13b.out).2.1 0
            have k3 := cell_of_heap (HKEEP.out w13 HB13b.out).2.2 0
            have k4 := cell_of_heap (HKEEP.out w13 HB13b.out).2.2 1
            go_wp2_with fail
            go_roundw
            case rel => exact ⟨k + 1, by go_num, hlt, HB13⟩
            case measure => simp [intOf]; omega
        · go_wp2_with fail
          go_meet
          exact hbr
    · have hxb : (x1 == 0) = false := beq_eq_false_iff_ne.2 hx0
      go_wp2_with fail
      go_meet
      exact Below.refl _ _
  obtain ⟨wd, hwd⟩ : ∃ W, W = wc := ⟨_, rfl⟩
  subst hwd
  have HBD := Lib.hid (H10.out.trans (hcut.out.mono H10.out.size))
  have HXD := Lib.hid ((hcut.out.block _ (lt_of_heap HX10.out)).trans HX10.out)
  clear hcut
  have k1 := cell_of_heap (HKEEP.out wd HBD.out).1 0
  have k2 := cell_of_heap (HKEEP.out wd HBD.out).2.1 0
  have k3 := cell_of_heap (HKEEP.out wd HBD.out).2.2 0
  have k4 := cell_of_heap (HKEEP.out wd HBD.out).2.2 1
  cases hgf : goodB f.1
  · have hgd := HGD.out wd
    rw [hgf] at hgd
    have HGX := Lib.hid hgd
    clear hgd hgf
    go_wp2_with fail
    refine HGX.out.mono ?_
    rintro e we ⟨rfl, he⟩
    have HBE := Lib.hid (HBD.out.trans (he.mono HBD.out.size))
    clear he k1 k2 k3 k4
    go_wp2_with fail
    go_ret
    first | exact ⟨rfl, HEND.out _ HBE.out⟩ | exact ⟨rfl, HENDB.out _ HBE.out⟩
  have hgd := HGD.out wd
  rw [hgf] at hgd
  have HGX := Lib.hid hgd; have HGF := Lib.hid hgf
  clear hgd hgf
  go_wp2_with fail
  refine HGX.out.mono ?_
  rintro e we ⟨rfl, he⟩
  have HBE := Lib.hid (HBD.out.trans (he.mono HBD.out.size))
  have HXE := Lib.hid ((he.block _ (lt_of_heap HXD.out)).trans HXD.out)
  clear he k1 k2 k3 k4
  have k1 := cell_of_heap (HKEEP.out we HBE.out).1 0
  have k2 := cell_of_heap (HKEEP.out we HBE.out).2.1 0
  have k3 := cell_of_heap (HKEEP.out we HBE.out).2.2 0
  have k4 := cell_of_heap (HKEEP.out we HBE.out).2.2 1
  cases hgt : goodT ps
  · have hgg := HGT.out we HBE.out
    rw [hgt] at hgg
    have HGX := Lib.hid hgg
    clear hgg hgt
    go_wp2_with fail
    refine HGX.out.mono ?_
    rintro e wf ⟨rfl, he⟩
    have HBF := Lib.hid (HBE.out.trans (he.mono HBE.out.size))
    clear he k1 k2 k3 k4
    go_wp2_with fail
    go_ret
    first | exact ⟨rfl, HEND.out _ HBF.out⟩ | exact ⟨rfl, HENDB.out _ HBF.out⟩
  have hgg := HGT.out we HBE.out
  rw [hgt] at hgg
  have HGX := Lib.hid hgg; have HGTT := Lib.hid hgt
  clear hgg hgt
  go_wp2_with fail
  refine HGX.out.mono ?_
  rintro e wf ⟨rfl, he⟩
  have HBF := Lib.hid (HBE.out.trans (he.mono HBE.out.size))
  have HXF := Lib.hid ((he.block _ (lt_of_heap HXE.out)).trans HXE.out)
  clear he k1 k2 k3 k4
  have k1 := cell_of_heap (HKEEP.out wf HBF.out).1 0
  have k2 := cell_of_heap (HKEEP.out wf HBF.out).2.1 0
  have k3 := cell_of_heap (HKEEP.out wf HBF.out).2.2 0
  have k4 := cell_of_heap (HKEEP.out wf HBF.out).2.2 1
  obtain ⟨r3, hc3, hc4⟩ := cut_ok HGTT.out HGF.out
  have hcu := HCU.out wf HBF.out
  rw [hc3] at hcu
  obtain ⟨n3, hn3⟩ : ∃ k, k = r3.length := ⟨_, rfl⟩
  have hn3b : n3 ≤ 1000000 := by
    rw [hn3]
    unfold cutT at hc3
    split at hc3
    · split at hc3
      · have h1 := makeT_le (cutL f.1 ps)
        have h2 : (cutL f.1 ps).length ≤ ps.length := List.length_filterMap_le _ _
        rw [hc3] at h1
        have := HN.out
        simp at h1
        omega
      · cases (Prod.mk.inj hc3).1
    · cases (Prod.mk.inj hc3).1
  unfold MakeTo at hcu
  dsimp only at hcu
  rw [← hn3] at hcu
  have HCX := Lib.hid hcu; have HN3 := Lib.hid hn3; have HC4 := Lib.hid hc4
  clear hcu hn3 hc3 hc4
  go_wp2_with fail
  refine HCX.out.mono ?_
  rintro e wg ⟨a13, c13, rfl, hrow13, hg9⟩
  obtain ⟨wh, hwh, hbh, hxh, z1, z2⟩ := new_cell wg (.slice a13 n3 c13) 24
  have hbg := hg9.trans (hbh.mono hg9.size)
  have HBH := Lib.hid (HBF.out.trans (hbg.mono HBF.out.size))
  have HXH := Lib.hid ((hbg.block _ (lt_of_heap HXF.out)).trans HXF.out)
  have HYH := Lib.hid hxh
  have HZH := Lib.hid (show w9.heap.size < wg.heap.size ∧ w3.heap.size ≤ wg.heap.size by have := lt_of_heap HXF.out; have := hg9.size; have := HZ9.out; omega)
  have q13 := cell_of_heap hxh 0
  clear hrow13 hg9 hbh hxh z1 z2 hbg k1 k2 k3 k4
  have k1 := cell_of_heap (HKEEP.out wh HBH.out).1 0
  have k2 := cell_of_heap (HKEEP.out wh HBH.out).2.1 0
  have k3 := cell_of_heap (HKEEP.out wh HBH.out).2.2 0
  have k4 := cell_of_heap (HKEEP.out wh HBH.out).2.2 1
  rcases Nat.eq_zero_or_pos n3 with h0 | h0
  case inr =>
    have h0' : (0 : Int) < (n3 : Int) := by omega
    go_wp2_with fail
    go_ret
    first | exact ⟨rfl, HEND.out _ HBH.out⟩ | exact ⟨rfl, HENDB.out _ HBH.out⟩
  subst h0
  have hce : cutL f.1 ps = [] := HC4.out.1 (List.eq_nil_of_length_eq_zero HN3.out.symm)
  have hmt := HMT.out wh HBH.out
  cases hx4 : mountT ps f.1 qs with
  | mk x4 r4 =>
  rw [hx4] at hmt
  obtain ⟨n4, hn4⟩ : ∃ k, k = r4.length := ⟨_, rfl⟩
  unfold MakeTo at hmt
  dsimp only at hmt
  rw [← hn4] at hmt
  have HMX := Lib.hid hmt; have HN4 := Lib.hid hn4; have HX4 := Lib.hid hx4; have HCE := Lib.hid hce
  clear hmt hn4 hx4 hce
  go_wp2_with fail
  refine HMX.out.mono ?_
  rintro e wi ⟨a14, c14, rfl, hrow14, hi⟩
  have HBI := Lib.hid (HBH.out.trans (hi.mono HBH.out.size))
  have hx7 := (hi.block _ (lt_of_heap HXH.out)).trans HXH.out
  have hx13 := (hi.block _ (lt_of_heap HYH.out)).trans HYH.out
  obtain ⟨wj, hwj⟩ : ∃ W, W = wi.setCell ⟨w9.heap.size, 0, none⟩ (.slice a14 n4 c14) := ⟨_, rfl⟩
  have hset : ∀ g, g ≠ w9.heap.size → wj.heap[g]? = wi.heap[g]? := fun g hg => by rw [hwj]; exact Below.heap_setCell _ _ _ _ (by simpa using hg)
  have hbj : Below w3.heap.size w3 wj := by rw [hwj]; exact HBI.out.setCell (p := ⟨w9.heap.size, 0, none⟩) HZ9.out.1 _
  have hx7j : wj.heap[w9.heap.size]? = some (.cells #[.slice a14 n4 c14] 24 (0, 0)) := by rw [hwj]; exact heap_setCell_here (i := 0) _ hx7
  have hx13j := (hset wg.heap.size (by have := HZH.out; omega)).trans hx13
  have hrow := hrow14.keep (w' := wj) (fun g hg _ => hset g (by have := HZH.out; have := lt_of_heap HYH.out; omega))
  have q7 := cell_of_heap hx7 0
  have qf := frozen_of_heap hx7
  have HBJ := Lib.hid hbj; have HX7J := Lib.hid hx7j; have HX13J := Lib.hid hx13j; have HRJ := Lib.hid hrow; have HWJ := Lib.hid hwj
  clear hrow14 hi hx7 hx13 hset hbj hx7j hx13j hrow hwj k1 k2 k3 k4
  by_cases hx0 : x4 = 0
  case neg =>
    have hxb : (x4 != 0) = true := by simpa using hx0
    have hxb2 : (x4 == 0) = false := beq_eq_false_iff_ne.2 hx0
    go_wp2_with fail
    rw [← HWJ.out]
    go_ret
    first | exact ⟨rfl, HEND.out _ HBJ.out⟩ | exact ⟨rfl, HENDB.out _ HBJ.out⟩
  subst hx0
  have hcm := cut_mount HGF.out HCE.out HX4.out
  have hg4 := good_len (mountT_good HX4.out)
  have hcu := fun W (h : Below wj.heap.size wj W) => cut_tree W a14 c14 r4 S1 ((HRJ.out.below h).rd) HRJ.out.sl (by omega) (fun p hp => by have := hg4.2 p hp; omega) hS1s
  rw [HS1D.out, hcm, ← HN4.out] at hcu
  unfold MakeTo at hcu
  dsimp only at hcu
  rw [← HN'.out] at hcu
  have HCV := Lib.hid hcu
  have r7 := cell_of_heap HX7J.out 0
  have k1 := cell_of_heap (HKEEP.out wj HBJ.out).1 0
  have k2 := cell_of_heap (HKEEP.out wj HBJ.out).2.1 0
  have k3 := cell_of_heap (HKEEP.out wj HBJ.out).2.2 0
  have k4 := cell_of_heap (HKEEP.out wj HBJ.out).2.2 1
  rw [HWJ.out] at k1 k2 k3 k4 r7
  clear hcm hg4 hcu
  go_wp2_with fail
  rw [← HWJ.out]
  refine (HCV.out wj (Below.refl _ _)).mono ?_
  rintro e wk ⟨a15, c15, rfl, hrow15, hk⟩
  have HBK := Lib.hid (HBJ.out.trans (hk.mono HBJ.out.size))
  have hx13 := (hk.block _ (lt_of_heap HX13J.out)).trans HX13J.out
  obtain ⟨wl, hwl⟩ : ∃ W, W = wk.setCell ⟨wg.heap.size, 0, none⟩ (.slice a15 m c15) := ⟨_, rfl⟩
  have hset : ∀ g, g ≠ wg.heap.size → wl.heap[g]? = wk.heap[g]? := fun g hg => by rw [hwl]; exact Below.heap_setCell _ _ _ _ (by simpa using hg)
  have hbl : Below w3.heap.size w3 wl := by rw [hwl]; exact HBK.out.setCell (p := ⟨wg.heap.size, 0, none⟩) HZH.out.2 _
  have hx13l : wl.heap[wg.heap.size]? = some (.cells #[.slice a15 m c15] 24 (0, 0)) := by rw [hwl]; exact heap_setCell_here (i := 0) _ hx13
  have hrow := hrow15.keep (w' := wl) (fun g hg _ => hset g (by have := lt_of_heap HX13J.out; omega))
  have hsm := same_any wl a15 b c15 d qs qs hrow.rd (HRL.out wl hbl).2 (by rw [← HN'.out]; omega) (by rw [← HN'.out]; omega)
  rw [decide_eq_true rfl, ← HN'.out] at hsm
  have HSA := Lib.hid hsm; have HBL := Lib.hid hbl; have HWL := Lib.hid hwl
  have m1 := cell_of_heap hx13 0
  have m2 := frozen_of_heap hx13
  have m3 := cell_of_heap hx13l 0
  have m4 := cell_of_heap (HKEEP.out wl hbl).2.1 0
  rw [hwl] at m3 m4
  clear hrow15 hk hx13 hset hbl hx13l hrow hsm hwl k1 k2 k3 k4 r7 q7 qf
  go_wp2_with fail
  rw [← HWL.out]
  refine HSA.out.mono ?_
  rintro e wm ⟨rfl, hm⟩
  have HBM := Lib.hid (HBL.out.trans (hm.mono HBL.out.size))
  clear hm
  go_wp2_with fail
  go_ret
  first | exact ⟨rfl, HEND.out _ HBM.out⟩ | exact ⟨rfl, HENDB.out _ HBM.out⟩
end Go.Proofs.YtjcimajkjnjdpabGreatDoor
