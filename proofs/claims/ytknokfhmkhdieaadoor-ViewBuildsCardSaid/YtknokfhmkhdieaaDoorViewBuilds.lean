/- DERIVED. The law ViewBuilds, walked. -/
import Derived.Test.YtknokfhmkhdieaaDoorViewRefBuild
import Derived.Test.YtknokfhmkhdieaaDoorViewAlive
import Derived.Test.YtknokfhmkhdieaaDoorViewLaw
namespace Go.Proofs.YtknokfhmkhdieaaDoor
open Go.RowKit
set_option linter.unusedVariables false

theorem small_ok {ms : List Mt} (h : Small ms) : MtOk ms := ⟨fun m hm => by have := h.dir m hm; omega, fun m hm => by have := h.files m hm; omega, fun m hm p hp => by have := (h.file m hm p hp).1; omega⟩
theorem buildT_good (ms : List Mt) : goodT (buildT ms).2 = true := by
  cases h : buildT ms with
  | mk x t =>
  by_cases hx : x = 0
  · subst hx
    exact makeT_good (buildT_iff.1 h).2.2
  · rw [buildT_bad h hx]; exact goodT_nil
set_option maxRecDepth 100000 in
set_option maxHeartbeats 16000000 in
theorem builds_law (w : World) (a : Option Addr) (c : Nat) (ms : List Mt) (hr : RdMt w a ms) (hs : Sl a ms.length c) (hcap : ms.length ≤ c) (hcm : c ≤ 4398046511104) (hsz : MtSz ms) :
    Calls Tryd.prog 3 #[.slice a ms.length c] w (fun e w' => e = .returned (.bool true) ∧ Below w.heap.size w w') := by
  obtain ⟨n, hnn⟩ : ∃ n, n = ms.length := ⟨_, rfl⟩
  have hG := fun W (h : Below w.heap.size w W) => great_any W a c ms (hr.below h) hsz
  have hnl : n ≤ 4398046511104 := by rw [hnn]; exact hsz.len
  rw [← hnn] at hcap ⊢
  rw [← hnn] at hG
  have HR := Lib.hid hr; have HN := Lib.hid hnn; have HG := Lib.hid hG
  clear hr hs hnn hG hsz
  go_enter Tryd.func3, Tryd.ntmps3
  go_wp2_with fail
  refine (alive_any _).mono ?_
  rintro e w1 ⟨rfl, h1⟩
  have H1 := Lib.hid h1; clear h1
  go_wp2_with fail
  refine (HG.out w1 H1.out).mono ?_
  rintro e wc ⟨b, rfl, hsm, h2⟩
  have hbc := Lib.hid (H1.out.trans (h2.mono H1.out.size)); have HSM := Lib.hid hsm
  clear h2 hsm
  cases b
  · have HSM2 := Lib.hid (HSM.out rfl)
    have hn40 : n ≤ 40 := by rw [HN.out]; exact HSM2.out.len
    have hA := build_any wc a c ms (HR.out.below hbc.out) (by rw [← HN.out]; exact hcap) (by unfold maxLen; omega) (by rw [← HN.out]; omega) (small_ok HSM2.out)
    have hB := fun W (h : Below wc.heap.size wc W) => rbuild_any W a c ms ((HR.out.below hbc.out).below h) (by rw [← HN.out]; exact hcap) (by unfold maxLen; omega) (by rw [← HN.out]; omega) (small_ok HSM2.out)
    have hgd := buildT_good ms
    cases h1 : buildT ms with
    | mk x t =>
    rw [h1] at hgd
    dsimp only at hgd
    rw [h1, ← HN.out] at hA
    rw [h1, ← HN.out] at hB
    unfold MakeTo at hA hB
    dsimp only at hA hB
    obtain ⟨nt, hnt⟩ : ∃ nt, nt = t.length := ⟨_, rfl⟩
    rw [← hnt] at hA hB
    have hle := (good_len hgd).1
    have HA := Lib.hid hA; have HB := Lib.hid hB; have HNT := Lib.hid hnt; have HGD := Lib.hid hgd; have HLE := Lib.hid hle
    have hnt2 : nt ≤ 32 := by omega
    clear hA hB hnt h1 HR hgd hle
    go_wp2_with fail
    refine HA.out.mono ?_
    rintro e w3 ⟨a6, c6, rfl, hrow6, hb3⟩
    obtain ⟨w4, hw4, hb4, hx4, z1, z2⟩ := new_cell w3 (.slice a6 nt c6) 27
    have hb34 := hb3.trans (hb4.mono hb3.size)
    have HB4 := Lib.hid hb34; have HX4 := Lib.hid hx4; have HR6 := Lib.hid (hrow6.below hb4)
    have HBC := hbc
    clear hrow6 hb3 hb4 hx4 z1 z2 hb34 hbc
    go_wp2_with fail
    refine (HB.out w4 HB4.out).mono ?_
    rintro e w5 ⟨a7, c7, rfl, hrow7, hb5⟩
    obtain ⟨w6, hw6, hb6, hx6, z1, z2⟩ := new_cell w5 (.slice a7 nt c7) 27
    have hb56 := hb5.trans (hb6.mono hb5.size)
    have hx46 := (hb56.block _ (lt_of_heap HX4.out)).trans HX4.out
    have q4 := cell_of_heap hx46 0
    have q6 := cell_of_heap hx6 0
    have hsm := same_any w6 a6 a7 c6 c7 t t (HR6.out.below hb56).rd (hrow7.below hb6).rd (by have := HLE.out; omega) (by have := HLE.out; omega)
    rw [decide_eq_true rfl, ← HNT.out] at hsm
    have hgo := fun W (h : Below w6.heap.size w6 W) => tgood_any W a6 c6 t ((HR6.out.below hb56).below h).rd HR6.out.sl (by have := HLE.out; omega) (fun p hp => by have := (good_len HGD.out).2 p hp; omega)
    rw [show goodT t = true from HGD.out, ← HNT.out] at hgo
    have HSA := Lib.hid hsm; have HGO := Lib.hid hgo; have HX46 := Lib.hid hx46
    have HB6 := Lib.hid (HBC.out.trans ((HB4.out.trans (hb56.mono HB4.out.size)).mono HBC.out.size))
    clear hrow7 hb5 hb6 hx6 z1 z2 hb56 hsm hgo hx46
    go_wp2_with fail
    refine HSA.out.mono ?_
    rintro e w7 ⟨rfl, h7⟩
    have q7 := cell_of_heap ((h7.block _ (lt_of_heap HX46.out)).trans HX46.out) 0
    have H7 := Lib.hid h7
    clear h7 q4 q6
    go_wp2_with fail
    refine (HGO.out w7 H7.out).mono ?_
    rintro e w8 ⟨rfl, h8⟩
    have HB8 := Lib.hid (HB6.out.trans ((H7.out.trans (h8.mono H7.out.size)).mono HB6.out.size))
    clear h8
    go_wp2_with fail
    go_ret
    exact ⟨rfl, HB8.out⟩
  · go_wp2_with fail
    go_ret
    exact ⟨rfl, hbc.out⟩
end Go.Proofs.YtknokfhmkhdieaaDoor
