/- DERIVED. The law SexpLeaves, walked. -/
import Derived.Test.YtnekmmknjhflgaaDoorSexpGone
namespace Go.Proofs.YtnekmmknjhflgaaDoor
open Go.RowKit
set_option linter.unusedVariables false

set_option maxHeartbeats 4000000 in
theorem leaveslaw_any (t : T) (w : World) (v0 v1 v2 : Value) (hn : NodeAt w t v0 v1 v2) (most : Int) (htab : Tab w) :
    Calls Tryd.prog 7 #[.agg #[v0, v1, v2], .int .i64 most] w (fun e w' => e = .returned (.bool true) ∧ Below w.heap.size w w') := by
  obtain ⟨c0, c1, c2⟩ := box_cells w v0 v1 v2
  have hb1 : Below w.heap.size w (w.alloc (.cells #[v0, v1, v2] 24)) := (Below.refl _ w).alloc (Nat.le_refl _) _
  obtain ⟨w1, hw1⟩ : ∃ w1, w.alloc (.cells #[v0, v1, v2] 24) = w1 := ⟨_, rfl⟩
  rw [hw1] at hb1 c0 c1 c2
  have HAL := Lib.hid (alive_any w1 (htab.below hb1))
  have HG := Lib.hid (fun W (hb : Below w.heap.size w W) => great_any t W v0 v1 v2 (hn.below hb))
  have HN := Lib.hid (fun W (hb : Below w.heap.size w W) => hn.below hb)
  have HB := Lib.hid hb1
  obtain ⟨q, hq⟩ : ∃ q, q = greatT t := ⟨_, rfl⟩
  rw [← hq] at HG
  have HLN := Lib.hid (fun h : q = false => leaves_len (hq.symm.trans h))
  obtain ⟨l, sx, a, n, c, rfl, rfl, rfl⟩ := hn.form
  clear hb1 hq hn htab
  go_enter Tryd.func7, Tryd.ntmps7
  go_wp2_with fail
  refine HAL.out.mono ?_
  rintro e w3 ⟨rfl, hb3⟩
  replace c0 := below_keeps hb3 _ _ c0
  replace c1 := below_keeps hb3 _ _ c1
  replace c2 := below_keeps hb3 _ _ c2
  have HB3 := Lib.hid (HB.out.trans (hb3.mono HB.out.size)); clear hb3
  go_wp2_with fail
  refine (HG.out w3 HB3.out).mono ?_
  rintro e w4 ⟨rfl, hb4⟩
  replace c0 := below_keeps hb4 _ _ c0
  replace c1 := below_keeps hb4 _ _ c1
  replace c2 := below_keeps hb4 _ _ c2
  have HB4 := Lib.hid (HB3.out.trans (hb4.mono HB3.out.size)); clear hb4
  cases q
  · have HLEN := Lib.hid (HLN.out rfl)
    go_wp2_with fail
    refine (rleaves_any _ t (Nat.le_refl _) (Nat.le_trans HLEN.out (by decide)) w4 _ _ _ (HN.out w4 HB4.out)).mono ?_
    rintro e w5 ⟨ra, rc, rfl, hrd, hb5⟩
    replace c0 := below_keeps hb5 _ _ c0
    replace c1 := below_keeps hb5 _ _ c1
    replace c2 := below_keeps hb5 _ _ c2
    have HB5 := Lib.hid (HB4.out.trans (hb5.mono HB4.out.size)); clear hb5
    have hG := fun (W : World) (hb : Below w5.heap.size w5 W) (most : Int) => gone_any t W _ _ _ (HN.out W (HB5.out.trans (hb.mono HB5.out.size))) (Nat.le_trans HLEN.out (by decide)) ra rc ((RdStrs.of_rd hrd).below hb) most
    obtain ⟨k, hk⟩ : ∃ k, k = (leavesT t).length := ⟨_, rfl⟩
    have hk2 : k ≤ 131072 := by rw [hk]; exact HLEN.out
    rw [← hk] at hG ⊢
    have HGN := Lib.hid hG
    clear hG hk hrd
    go_wp2_with fail
    refine (HGN.out w5 (Below.refl _ _) _).mono ?_
    rintro e w6 ⟨rfl, hb6⟩
    replace c0 := below_keeps hb6 _ _ c0
    replace c1 := below_keeps hb6 _ _ c1
    replace c2 := below_keeps hb6 _ _ c2
    have HB6 := Lib.hid hb6; clear hb6
    go_wp2_with fail
    refine (HGN.out w6 HB6.out _).mono ?_
    rintro e w7 ⟨rfl, hb7⟩
    replace c0 := below_keeps hb7 _ _ c0
    replace c1 := below_keeps hb7 _ _ c1
    replace c2 := below_keeps hb7 _ _ c2
    have HB7 := Lib.hid (HB6.out.trans (hb7.mono HB6.out.size)); clear hb7
    go_wp2_with fail
    refine (HGN.out w7 HB7.out _).mono ?_
    rintro e w8 ⟨rfl, hb8⟩
    have HB8 := Lib.hid (HB7.out.trans (hb8.mono HB7.out.size)); clear hb8
    go_wp2_with fail
    go_ret
    exact ⟨rfl, HB5.out.trans (HB8.out.mono HB5.out.size)⟩
  · go_wp2_with fail
    go_ret
    exact ⟨rfl, HB4.out⟩
end Go.Proofs.YtnekmmknjhflgaaDoor
