/- DERIVED. The law SexpCuts, walked. -/
import Derived.Test.YtnekmmknjhflgabDoorSexpFlat
namespace Go.Proofs.YtnekmmknjhflgabDoor
open Go.RowKit
set_option linter.unusedVariables false

theorem byte_of {n : Int} (hw : (Lit.int .u8 n).wf = true) : ∃ c : UInt8, (c.toNat : Int) = n := by
  have hb : 0 ≤ n ∧ n ≤ 255 := by simpa [Lit.wf, IntKind.min, IntKind.max, IntKind.bits, IntKind.signed] using hw
  exact ⟨UInt8.ofNat n.toNat, by simp; omega⟩
theorem rd_byte (w : World) (c : UInt8) : Rd (w.alloc (.cells #[.int .u8 (c.toNat : Int)] 5)) (.slice (some ⟨w.heap.size, 0, none⟩) 1 1) (bytesV [c]) := by
  refine ⟨_, 1, rfl, Nat.le_refl _, fun h => (Option.some_ne_none _ h).elim, fun ad e j u hj => ?_⟩
  obtain rfl := Option.some.inj e
  rw [Addr.add_lit, Nat.zero_add, cell_of_heap (heap_alloc_new w _)]
  simpa [bytesV] using hj
set_option maxHeartbeats 4000000 in
theorem cuts_any (t : T) (at_ : Int) (c : UInt8) (w : World) (v0 v1 v2 : Value) (hn : NodeAt w t v0 v1 v2) (htab : Tab w) :
    Calls Tryd.prog 3 #[.agg #[v0, v1, v2], .int .i64 at_, .int .u8 (c.toNat : Int)] w (fun e w' => e = .returned (.bool true) ∧ Below w.heap.size w w') := by
  obtain ⟨c0, c1, c2⟩ := box_cells w v0 v1 v2
  have hb1 : Below w.heap.size w (w.alloc (.cells #[v0, v1, v2] 24)) := (Below.refl _ w).alloc (Nat.le_refl _) _
  obtain ⟨w1, hw1⟩ : ∃ w1, w.alloc (.cells #[v0, v1, v2] 24) = w1 := ⟨_, rfl⟩
  rw [hw1] at hb1 c0 c1 c2
  have HAL := Lib.hid (alive_any w1 (htab.below hb1))
  have HG1 := Lib.hid (fun W (hb : Below w.heap.size w W) => great_any t W v0 v1 v2 (hn.below hb))
  have HE1 := Lib.hid (fun W (hb : Below w.heap.size w W) => enc_any t W v0 v1 v2 (hn.below hb) (htab.below hb))
  have HB := Lib.hid hb1; have HTAB := Lib.hid htab
  obtain ⟨xl, hxl⟩ : ∃ xl, xl = (encT t).1 := ⟨_, rfl⟩
  obtain ⟨X, hX⟩ : ∃ X : ByteArray, X = ⟨xl.toArray⟩ := ⟨_, rfl⟩
  have hXs : X.size = xl.length := by rw [hX, str_size]
  have hXl : X.size ≤ 65536 := by rw [hXs, hxl]; exact encT_len t
  obtain ⟨f, hf⟩ : ∃ y, y = (encT t).2 := ⟨_, rfl⟩
  have HEN := Lib.hid (show f = 0 → encT t = (xl, 0) from fun h => Prod.ext hxl.symm (hf.symm.trans h))
  rw [← hxl, ← hf] at HE1
  unfold strV at HE1
  rw [← hX] at HE1
  have HX := Lib.hid hX; have HXS := Lib.hid hXs
  obtain ⟨q1, hq1⟩ : ∃ q, q = greatT t := ⟨_, rfl⟩
  rw [← hq1] at HG1
  obtain ⟨z, hz⟩ : ∃ z : Int, z = (c.toNat : Int) := ⟨_, rfl⟩
  have hcv : ∀ W : World, (convert 32 9 (.slice (some ⟨W.heap.size, 0, none⟩) 1 1)).run Tryd.prog (W.alloc (.cells #[.int .u8 z] 5)) = .ok (.string ⟨#[c]⟩) (W.alloc (.cells #[.int .u8 z] 5)) := by
    intro W
    rw [hz]
    exact conv_rd (P := Tryd.prog) Tryd.underlying32 Tryd.underlying5 Tryd.underlying9 (rd_byte W c)
  rw [← hz]
  obtain ⟨l, sx, a, n, c', rfl, rfl, rfl⟩ := hn.form
  clear hxl hX hXs hf hq1 hb1 hn htab hz
  go_enter Tryd.func3, Tryd.ntmps3
  go_wp2_with fail
  refine HAL.out.mono ?_
  rintro e w3 ⟨rfl, hb3⟩
  replace c0 := below_keeps hb3 _ _ c0
  replace c1 := below_keeps hb3 _ _ c1
  replace c2 := below_keeps hb3 _ _ c2
  have HB3 := Lib.hid (HB.out.trans (hb3.mono HB.out.size)); clear hb3
  go_wp2_with fail
  refine (HG1.out w3 HB3.out).mono ?_
  rintro e w4 ⟨rfl, hb4⟩
  replace c0 := below_keeps hb4 _ _ c0
  replace c1 := below_keeps hb4 _ _ c1
  replace c2 := below_keeps hb4 _ _ c2
  have HB4 := Lib.hid (HB3.out.trans (hb4.mono HB3.out.size)); clear hb4
  cases q1
  · go_wp2_with fail
    refine (HE1.out w4 HB4.out).mono ?_
    rintro e w5 ⟨rfl, hb5⟩
    have HB5 := Lib.hid (HB4.out.trans (hb5.mono HB4.out.size)); clear hb5 c0 c1 c2
    by_cases hf : f = 0
    · have hf1 : (f != 0) = false := by simp [hf]
      have HE := Lib.hid (HEN.out hf)
      clear hf
      by_cases hbig : 4096 < X.size
      · have hbd : decide ((4096 : Int) < (X.size : Int)) = true := by simp; omega
        go_wp2_with fail
        go_ret
        exact ⟨rfl, HB5.out⟩
      · have hbig' : X.size ≤ 4096 := by omega
        have hbd : decide ((4096 : Int) < (X.size : Int)) = false := by simp; omega
        clear hbig
        by_cases hneg : at_ < 0
        · have hnd : decide (at_ < 0) = true := by simpa using hneg
          go_wp2_with fail
          go_ret
          exact ⟨rfl, HB5.out⟩
        · have hnd : decide (at_ < 0) = false := by simpa using hneg
          obtain ⟨k, rfl⟩ : ∃ k : Nat, at_ = (k : Int) := ⟨at_.toNat, by omega⟩
          clear hneg
          by_cases hge : X.size ≤ k
          · have hgd : decide ((X.size : Int) ≤ (k : Int)) = true := by simp; omega
            have hgd2 : decide (X.size ≤ k) = true := by simpa using hge
            go_wp2_with fail
            go_ret
            exact ⟨rfl, HB5.out⟩
          · have hgd : decide ((X.size : Int) ≤ (k : Int)) = false := by simp; omega
            have hgd2 : decide (X.size ≤ k) = false := by simpa using hge
            have hkl : k < X.size := by omega
            have hD1 : Calls Tryd.prog 8 #[.string (X.extract 0 k)] w5 (FlatTo w5 (.error 5)) := by
              have h := decf_any w5 (X.extract 0 k) (by rw [ByteArray.size_extract]; omega) (HTAB.out.below HB5.out)
              have e : (X.extract 0 k).data.toList = xl.take k := by
                rw [HX.out, str_take]
              rw [e, dec_cut t xl HE.out k (by rw [← HXS.out]; exact hkl)] at h
              exact h
            have hD2 : ∀ W, Below w.heap.size w W → Calls Tryd.prog 8 #[.string (X ++ ⟨#[c]⟩)] W (FlatTo W (.error 5)) := by
              intro W hW
              have e : (X ++ ⟨#[c]⟩).data.toList = xl ++ [c] := by rw [HX.out, ByteArray.data_append]; simp
              have h := decf_any W (X ++ ⟨#[c]⟩) (by rw [ByteArray.size_append]; show X.size + 1 ≤ _; omega) (HTAB.out.below hW)
              rw [e, dec_more t xl HE.out c (by rw [← HXS.out]; omega)] at h
              exact h
            have HD1 := Lib.hid hD1; have HD2 := Lib.hid hD2
            have hcs : (⟨#[c]⟩ : ByteArray).size = 1 := rfl
            clear hD1 hD2 hge
            go_wp2_with fail
            refine HD1.out.mono ?_
            rintro e w6 ⟨l1, sx1, a1, n1, cc1, rfl, hn1, hb6⟩
            rw [show (decP (.error 5)).2 = 5 from rfl]
            have hbw7 : Below w6.heap.size w6 (w6.alloc (.cells #[.bool l1, .string sx1, .slice a1 n1 cc1] 24)) := (Below.refl _ w6).alloc (Nat.le_refl _) _
            obtain ⟨m0, m1, m2⟩ := box_cells w6 (.bool l1) (.string sx1) (.slice a1 n1 cc1)
            obtain ⟨w7, hw7⟩ : ∃ w7, w6.alloc (.cells #[.bool l1, .string sx1, .slice a1 n1 cc1] 24) = w7 := ⟨_, rfl⟩
            rw [hw7] at hbw7 m0 m1 m2
            have HB7 := Lib.hid (HB5.out.trans ((hb6.trans (hbw7.mono hb6.size)).mono HB5.out.size))
            have hcv7 := hcv w7
            clear hn1 hb6 hbw7 hcv
            go_wp2_with fail
            refine (HD2.out _ (HB7.out.alloc HB7.out.size _)).mono ?_
            rintro e w8 ⟨l2, sx2, a2, n2, cc2, rfl, hn2, hb8⟩
            rw [show (decP (.error 5)).2 = 5 from rfl]
            have hb78 := (HB7.out.alloc HB7.out.size (.cells #[.int .u8 z] 5)).trans (hb8.mono (HB7.out.alloc HB7.out.size (.cells #[.int .u8 z] 5)).size)
            have HB8 := Lib.hid (hb78.alloc hb78.size (.cells #[.bool l2, .string sx2, .slice a2 n2 cc2] 24))
            clear hn2 hb8 hb78
            go_wp2_with fail
            go_ret
            exact ⟨rfl, HB8.out⟩
    · have hf1 : (f != 0) = true := by simp [hf]
      clear hf
      go_wp2_with fail
      go_ret
      exact ⟨rfl, HB5.out⟩
  · go_wp2_with fail
    go_ret
    exact ⟨rfl, HB4.out⟩
end Go.Proofs.YtnekmmknjhflgabDoor
