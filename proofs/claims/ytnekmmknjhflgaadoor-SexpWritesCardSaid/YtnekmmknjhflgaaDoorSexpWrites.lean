/- DERIVED. The law SexpWrites, walked. -/
import Derived.Test.YtnekmmknjhflgaaDoorSexpAlive
namespace Go.Proofs.YtnekmmknjhflgaaDoor
open Go.RowKit
set_option linter.unusedVariables false

set_option maxHeartbeats 2000000 in
theorem writes_any (t : T) (w : World) (v0 v1 v2 : Value) (hn : NodeAt w t v0 v1 v2) (htab : Tab w) :
    Calls Tryd.prog 3 #[.agg #[v0, v1, v2]] w (fun e w' => e = .returned (.bool true) ∧ Below w.heap.size w w') := by
  obtain ⟨c0, c1, c2⟩ := box_cells w v0 v1 v2
  have hb1 : Below w.heap.size w (w.alloc (.cells #[v0, v1, v2] 24)) := (Below.refl _ w).alloc (Nat.le_refl _) _
  obtain ⟨w1, hw1⟩ : ∃ w1, w.alloc (.cells #[v0, v1, v2] 24) = w1 := ⟨_, rfl⟩
  rw [hw1] at hb1 c0 c1 c2
  have HAL := Lib.hid (alive_any w1 (htab.below hb1))
  have HGR := Lib.hid (fun W (hb : Below w.heap.size w W) => great_any t W v0 v1 v2 (hn.below hb))
  have HEN := Lib.hid (fun W (hb : Below w.heap.size w W) => enc_any t W v0 v1 v2 (hn.below hb) (htab.below hb))
  have HRE := Lib.hid (fun W (hb : Below w.heap.size w W) => renc_any t W v0 v1 v2 (hn.below hb) (htab.below hb))
  have HB1 := Lib.hid hb1
  obtain ⟨X, hX⟩ : ∃ X : ByteArray, strV (encT t).1 = .string X := ⟨_, rfl⟩
  obtain ⟨y, hy⟩ : ∃ y, y = (encT t).2 := ⟨_, rfl⟩
  rw [hX, ← hy] at HEN HRE
  obtain ⟨q, hq⟩ : ∃ q, q = greatT t := ⟨_, rfl⟩
  rw [← hq] at HGR
  have hyy : (y == y) = true := by simp
  obtain ⟨lf, sx, ax, nx, cx, rfl, rfl, rfl⟩ := hn.form
  clear hb1 hX hy hq hn htab
  go_enter Tryd.func3, Tryd.ntmps3
  go_wp2_with fail
  refine HAL.out.mono ?_
  rintro e w2 ⟨rfl, hb2⟩
  have d0 := below_keeps hb2 _ _ c0
  have d1 := below_keeps hb2 _ _ c1
  have d2 := below_keeps hb2 _ _ c2
  have HB2 := Lib.hid (HB1.out.trans (hb2.mono HB1.out.size)); clear hb2 c0 c1 c2
  go_wp2_with fail
  refine (HGR.out w2 HB2.out).mono ?_
  rintro e w3 ⟨rfl, hb3⟩
  have e0 := below_keeps hb3 _ _ d0
  have e1 := below_keeps hb3 _ _ d1
  have e2 := below_keeps hb3 _ _ d2
  have HB3 := Lib.hid (HB2.out.trans (hb3.mono HB2.out.size)); clear hb3 d0 d1 d2
  cases q
  · go_wp2_with fail
    refine (HEN.out w3 HB3.out).mono ?_
    rintro e w4 ⟨rfl, hb4⟩
    have d0 := below_keeps hb4 _ _ e0
    have d1 := below_keeps hb4 _ _ e1
    have d2 := below_keeps hb4 _ _ e2
    have HB4 := Lib.hid (HB3.out.trans (hb4.mono HB3.out.size)); clear hb4 e0 e1 e2
    go_wp2_with fail
    refine (HRE.out w4 HB4.out).mono ?_
    rintro e w5 ⟨rfl, hb5⟩
    have HB5 := Lib.hid (HB4.out.trans (hb5.mono HB4.out.size)); clear hb5
    go_wp2_with fail
    go_ret
    exact ⟨by simp, HB5.out⟩
  · go_wp2_with fail
    go_ret
    exact ⟨rfl, HB3.out⟩
end Go.Proofs.YtnekmmknjhflgaaDoor
