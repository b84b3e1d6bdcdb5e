/- DERIVED. The law TreeMakes, walked. -/
import Derived.Test.YtjcimajkjnjdpaaGreatDoorTreeAlive
import Derived.Test.YtjcimajkjnjdpaaGreatDoorTreeGreat
import Derived.Test.YtjcimajkjnjdpaaGreatDoorTreeLaw
import Derived.Test.YtjcimajkjnjdpaaGreatDoorTreeRefGood
namespace Go.Proofs.YtjcimajkjnjdpaaGreatDoor
open Go.RowKit
set_option linter.unusedVariables false

set_option maxRecDepth 100000 in
set_option maxHeartbeats 16000000 in
theorem makes_law (w : World) (a : Option Addr) (c : Nat) (ps : List Pr) (hr : RdFl w a ps) (hs : Sl a ps.length c) (hsz : Sz ps) (htab : Tab w) :
    Calls Tryz.prog 3 #[.slice a ps.length c] w (fun e w' => e = .returned (.bool true) ∧ Below w.heap.size w w') := by
  obtain ⟨n, hnn⟩ : ∃ n, n = ps.length := ⟨_, rfl⟩
  have hG := fun W (h : Below w.heap.size w W) => great_any W a c ps (hr.below h) hsz
  have hnl : n ≤ 4398046511104 := by rw [hnn]; exact hsz.len
  rw [← hnn] at hG ⊢
  have HR := Lib.hid hr; have HS := Lib.hid hs; have HN := Lib.hid hnn; have HG := Lib.hid hG; have HT := Lib.hid htab
  clear hr hs hnn hG hsz htab
  go_enter Tryz.func3, Tryz.ntmps3
  go_wp2_with fail
  refine (alive_any _ HT.out).mono ?_
  rintro e w1 ⟨rfl, h1⟩
  have H1 := Lib.hid h1; clear h1
  go_wp2_with fail
  refine (HG.out w1 H1.out).mono ?_
  rintro e wc ⟨b, rfl, hsm, h2⟩
  have hbc := Lib.hid (H1.out.trans (h2.mono H1.out.size)); have HSM := Lib.hid hsm
  clear h2 hsm
  cases b
  · have HSM2 := Lib.hid (HSM.out rfl)
    have hn200 : n ≤ 200 := by rw [HN.out]; exact HSM2.out.len
    have hea : ∀ p ∈ ps, p.1.length ≤ 400000 := fun p hp => by have := (HSM2.out.each p hp).1; omega
    have hA := make_any wc a c ps (HR.out.below hbc.out) HS.out (by rw [← HN.out]; omega) hea
    have hB := fun W (h : Below wc.heap.size wc W) => rmake_any W a c ps ((HR.out.below hbc.out).below h) (by rw [← HN.out]; omega) hea
    have hC := fun W (h : Below wc.heap.size wc W) => tgood_any W a c ps ((HR.out.below hbc.out).below h) HS.out (by rw [← HN.out]; omega) hea
    have hD := fun W (h : Below wc.heap.size wc W) => rtgood_any W a c ps ((HR.out.below hbc.out).below h) (by rw [← HN.out]; omega) hea
    have hgd := makeT_good2 ps
    cases h1 : makeT ps with
    | mk x t =>
    rw [h1] at hgd
    dsimp only at hgd
    rw [h1, ← HN.out] at hA
    rw [h1, ← HN.out] at hB
    rw [← HN.out] at hC hD
    obtain ⟨R, hR⟩ : ∃ R, R = goodT ps := ⟨_, rfl⟩
    rw [← hR] at hC hD
    unfold MakeTo at hA hB
    dsimp only at hA hB
    obtain ⟨nt, hnt⟩ : ∃ nt, nt = t.length := ⟨_, rfl⟩
    rw [← hnt] at hA hB
    have hle := (good_len hgd).1
    have HA := Lib.hid hA; have HB := Lib.hid hB; have HC := Lib.hid hC; have HD := Lib.hid hD; have HNT := Lib.hid hnt; have HGD := Lib.hid hgd; have HLE := Lib.hid hle
    have hnt2 : nt ≤ 32 := by omega
    clear hA hB hC hD hnt h1 HR hgd hle hR hea
    go_wp2_with fail
    refine HA.out.mono ?_
    rintro e w3 ⟨a6, c6, rfl, hrow6, hb3⟩
    obtain ⟨w4, hw4, hb4, hx4, z1, z2⟩ := new_cell w3 (.slice a6 nt c6) 26
    have hb34 := hb3.trans (hb4.mono hb3.size)
    have HB4 := Lib.hid hb34; have HX4 := Lib.hid hx4; have HR6 := Lib.hid (hrow6.below hb4)
    have HBC := hbc
    clear hrow6 hb3 hb4 hx4 z1 z2 hb34 hbc
    go_wp2_with fail
    refine (HB.out w4 HB4.out).mono ?_
    rintro e w5 ⟨a7, c7, rfl, hrow7, hb5⟩
    obtain ⟨w6, hw6, hb6, hx6, z1, z2⟩ := new_cell w5 (.slice a7 nt c7) 26
    have hb56 := hb5.trans (hb6.mono hb5.size)
    have hx46 := (hb56.block _ (lt_of_heap HX4.out)).trans HX4.out
    have q4 := cell_of_heap hx46 0
    have q6 := cell_of_heap hx6 0
    have hsm := same_any w6 a6 a7 c6 c7 t t (HR6.out.below hb56).rd (hrow7.below hb6).rd (by have := HLE.out; omega) (by have := HLE.out; omega)
    rw [decide_eq_true rfl, ← HNT.out] at hsm
    have hgo := fun W (h : Below w6.heap.size w6 W) => tgood_any W a6 c6 t ((HR6.out.below hb56).below h).rd HR6.out.sl (by have := HLE.out; omega) (fun p hp => by have := (good_len HGD.out).2 p hp; omega)
    rw [show goodT t = true from HGD.out, ← HNT.out] at hgo
    have HSA := Lib.hid hsm; have HGO := Lib.hid hgo; have HX46 := Lib.hid hx46
    have HB46 := Lib.hid (HB4.out.trans (hb56.mono HB4.out.size))
    clear hrow7 hb5 hb6 hx6 z1 z2 hb56 hsm hgo hx46
    go_wp2_with fail
    refine HSA.out.mono ?_
    rintro e w7 ⟨rfl, h7⟩
    have H7 := Lib.hid h7
    have HB7 := Lib.hid (HB46.out.trans (h7.mono HB46.out.size))
    clear h7 q4 q6
    obtain ⟨w7', hw7', hb7', hx7', _, _⟩ := new_cell w7 (.slice a n c) 26
    go_wp2_with fail
    refine (HC.out w7 HB7.out).mono ?_
    rintro e w8 ⟨rfl, h8⟩
    have H8 := Lib.hid (H7.out.trans (h8.mono H7.out.size))
    have HB8 := Lib.hid (HB7.out.trans (h8.mono HB7.out.size))
    clear h8
    go_wp2_with fail
    refine (HD.out w8 HB8.out).mono ?_
    rintro e w9 ⟨rfl, h9⟩
    have H9 := Lib.hid (H8.out.trans (h9.mono H8.out.size))
    have q7 := cell_of_heap ((H9.out.block _ (lt_of_heap HX46.out)).trans HX46.out) 0
    have HB9 := Lib.hid (HB8.out.trans (h9.mono HB8.out.size))
    clear h9
    go_wp2_with fail
    refine (HGO.out w9 H9.out).mono ?_
    rintro e w10 ⟨rfl, h10⟩
    have HB10 := Lib.hid (HBC.out.trans ((HB9.out.trans (h10.mono HB9.out.size)).mono HBC.out.size))
    clear h10
    go_wp2_with fail
    go_ret
    exact ⟨rfl, HB10.out⟩
  · go_wp2_with fail
    go_ret
    exact ⟨rfl, hbc.out⟩
end Go.Proofs.YtjcimajkjnjdpaaGreatDoor
