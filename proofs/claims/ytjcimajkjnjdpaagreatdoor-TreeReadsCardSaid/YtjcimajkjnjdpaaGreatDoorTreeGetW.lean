/- DERIVED. tree.Get, walked. -/
import Derived.Test.YtjcimajkjnjdpaaGreatDoorTreeGet
namespace Go.Proofs.YtjcimajkjnjdpaaGreatDoor
open Go.RowKit
set_option linter.unusedVariables false

set_option maxRecDepth 100000 in
set_option maxHeartbeats 400000 in
theorem tget_any (w : World) (a : Option Addr) (c : Nat) (ps : List Pr) (k : List UInt8) (hr : RdFl w a ps) (hs : Srt ps) (hl : ps.length ≤ 1000000) :
    Calls Tryz.prog 14 #[.agg #[.slice a ps.length c], strV k] w (fun e w' => e = .returned (.tuple #[strV (getT ps k).1, .bool (getT ps k).2]) ∧ Below w.heap.size w w') := by
  obtain ⟨w1, hw1, hb1, hx1, _, _⟩ := new_cell w (.slice a ps.length c) 26
  have hF := bsf_any w1 a c ps k [] (hr.below hb1) hs hl
  obtain ⟨n, hnn⟩ : ∃ n, n = ps.length := ⟨_, rfl⟩
  have hX : ∀ W, Below w1.heap.size w1 W → W.cell? ⟨w.heap.size, 0, none⟩ = some (.slice a n c) := fun W h => by rw [hnn]; exact cell_of_heap ((h.block _ (lt_of_heap hx1)).trans hx1) 0
  have k0 := hX w1 (Below.refl _ _)
  rw [← hnn] at hw1 hF ⊢
  have HR := Lib.hid (hr.below hb1); have HS := Lib.hid hs; have HN := Lib.hid hnn; have HB1 := Lib.hid hb1; have HX := Lib.hid hX
  obtain ⟨G, hG⟩ : ∃ G, G = getT ps k := ⟨_, rfl⟩
  rw [← hG]
  have HGT := Lib.hid hG
  rw [show strV [] = .string ⟨#[]⟩ from rfl] at hF
  unfold strV at hF ⊢
  obtain ⟨K, hK⟩ : ∃ x : ByteArray, x = ⟨k.toArray⟩ := ⟨_, rfl⟩
  rw [← hK] at hF ⊢
  have HF := Lib.hid hF
  clear hr hs hnn hb1 hx1 hX hF hG hK
  go_enter Tryz.func14, Tryz.ntmps14
  go_wp2_with fail
  refine HF.out.mono ?_
  rintro e w2 ⟨i, b, rfl, hpos, hb, h2⟩
  have k2 := HX.out w2 h2
  have HB2 := Lib.hid h2; have HP := Lib.hid hpos; have HBB := Lib.hid hb
  clear hpos hb h2 k0
  cases b
  · have hE : G = ([], false) := by
      rw [HGT.out]
      exact getT_out fun v hv => by have := HBB.out.2 ⟨v, hv⟩; cases this
    subst hE
    go_wp2_with fail
    go_ret2
    exact ⟨rfl, HB1.out.trans (HB2.out.mono HB1.out.size)⟩
  · obtain ⟨v, hv⟩ := HBB.out.1 rfl
    have hat := HP.out.at HS.out hv
    have hE : G = (v, true) := by rw [HGT.out]; exact getT_in HS.out.nodup hv
    have hin : i < n := by rw [HN.out]; exact (List.getElem?_eq_some_iff.1 hat).1
    obtain ⟨rb, o, rfl, _, hc⟩ := (HR.out.below HB2.out) (fun e => by rw [e] at hat; cases hat)
    obtain ⟨_, c1⟩ := hc _ _ hat
    subst hE
    dsimp only
    obtain ⟨V, hV⟩ : ∃ x : ByteArray, x = ⟨v.toArray⟩ := ⟨_, rfl⟩
    unfold strV at c1
    dsimp only at c1
    rw [← hV] at c1
    have HV := Lib.hid hV
    clear hc hat hV hv
    go_wp2_with fail
    go_ret2
    exact ⟨by rw [show V = _ from HV.out]; rfl, HB1.out.trans (HB2.out.mono HB1.out.size)⟩
end Go.Proofs.YtjcimajkjnjdpaaGreatDoor
