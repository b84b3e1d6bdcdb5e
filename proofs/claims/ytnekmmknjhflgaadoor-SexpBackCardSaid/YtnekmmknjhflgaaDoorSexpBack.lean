/- DERIVED. The law SexpBack, walked. -/
import Derived.Test.YtnekmmknjhflgaaDoorSexpLaws
namespace Go.Proofs.YtnekmmknjhflgaaDoor
open Go.RowKit
set_option linter.unusedVariables false

theorem decT_errs {s : List UInt8} {f : Int} (h : decT s = .error f) : f = 3 ∨ f = 4 ∨ f = 5 := by
  unfold decT at h
  split at h
  · exact .inl (Except.error.inj h).symm
  · split at h
    · rename_i e he
      rw [← Except.error.inj h]
      exact .inr (takeT_errs _ _ _ he)
    · cases h
    · exact .inr (.inr (Except.error.inj h).symm)
theorem encT_len (t : T) : (encT t).1.length ≤ 65536 := by
  unfold encT
  cases hp : putT 0 [] t with
  | error e => exact Nat.zero_le _
  | ok c => exact putT_len t _ _ _ hp
set_option maxHeartbeats 4000000 in
theorem back_any (t : T) (S : ByteArray) (w : World) (v0 v1 v2 : Value) (hn : NodeAt w t v0 v1 v2) (hS : S.size ≤ 140737488351232) (htab : Tab w) :
    Calls Tryd.prog 5 #[.agg #[v0, v1, v2], .string S] w (fun e w' => e = .returned (.bool true) ∧ Below w.heap.size w w') := by
  obtain ⟨c0, c1, c2⟩ := box_cells w v0 v1 v2
  have hb1 : Below w.heap.size w (w.alloc (.cells #[v0, v1, v2] 24)) := (Below.refl _ w).alloc (Nat.le_refl _) _
  obtain ⟨w1, hw1⟩ : ∃ w1, w.alloc (.cells #[v0, v1, v2] 24) = w1 := ⟨_, rfl⟩
  rw [hw1] at hb1 c0 c1 c2
  have HAL := Lib.hid (alive_any w1 (htab.below hb1))
  have HG1 := Lib.hid (fun W (hb : Below w.heap.size w W) => great_any t W v0 v1 v2 (hn.below hb))
  have HE1 := Lib.hid (fun W (hb : Below w.heap.size w W) => enc_any t W v0 v1 v2 (hn.below hb) (htab.below hb))
  have HDS := Lib.hid (fun W (hb : Below w.heap.size w W) => decf_any W S hS (htab.below hb))
  have HB := Lib.hid hb1; have HTAB := Lib.hid htab; have HN := Lib.hid hn
  obtain ⟨X, hX, hX'⟩ : ∃ X : ByteArray, strV (encT t).1 = .string X ∧ X.data.toList = (encT t).1 := ⟨_, rfl, rfl⟩
  have hXs : X.size ≤ 65536 := by
    rw [show X.size = X.data.toList.length from by simp, hX']
    exact encT_len t
  have HD := Lib.hid (fun W (hb : Below w.heap.size w W) => decf_any W X (by omega) (htab.below hb))
  obtain ⟨f, hf⟩ : ∃ y, y = (encT t).2 := ⟨_, rfl⟩
  rw [hX, ← hf] at HE1
  rw [hX'] at HD
  have HF := Lib.hid (show f = 0 → decP (decT (encT t).1) = (t, 0) from fun h => by rw [dec_enc t _ (Prod.ext rfl (hf.symm.trans h))]; rfl)
  obtain ⟨q1, hq1⟩ : ∃ q, q = greatT t := ⟨_, rfl⟩
  rw [← hq1] at HG1
  obtain ⟨XS, hXS⟩ : ∃ X, X = decT S.data.toList := ⟨_, rfl⟩
  rw [← hXS] at HDS
  have hsx : (∃ z, (decP XS).2 = z ∧ (z != 0) = true) ∨ ∃ m, decP XS = (m, 0) ∧ encT m = (S.data.toList, 0) := by
    cases hd : XS with
    | error f =>
      left
      refine ⟨f, rfl, ?_⟩
      rcases decT_errs (hXS.symm.trans hd) with rfl | rfl | rfl <;> rfl
    | ok m => right; exact ⟨m, rfl, enc_dec m _ (by rw [← hXS, hd])⟩
  have HSX := Lib.hid hsx
  have HSL : Hid (strV S.data.toList = .string S) := Lib.hid (by unfold strV; cases S; simp)
  obtain ⟨l, sx, a, n, c, rfl, rfl, rfl⟩ := hn.form
  clear hsx hXS hq1 hf hX hX' hb1 hn htab
  go_enter Tryd.func5, Tryd.ntmps5
  go_wp2_with fail
  refine HAL.out.mono ?_
  rintro e w3 ⟨rfl, hb3⟩
  replace c0 := below_keeps hb3 _ _ c0
  replace c1 := below_keeps hb3 _ _ c1
  replace c2 := below_keeps hb3 _ _ c2
  have HB3 := Lib.hid (HB.out.trans (hb3.mono HB.out.size)); clear hb3
  go_wp2_with fail
  refine (HG1.out w3 HB3.out).mono ?_
  rintro e w4 ⟨rfl, hb4⟩
  replace c0 := below_keeps hb4 _ _ c0
  replace c1 := below_keeps hb4 _ _ c1
  replace c2 := below_keeps hb4 _ _ c2
  have HB4 := Lib.hid (HB3.out.trans (hb4.mono HB3.out.size)); clear hb4
  cases q1
  · by_cases hbig : 131072 < S.size
    · go_wp2_with fail
      go_ret
      exact ⟨rfl, HB4.out⟩
    · have hbig' : S.size ≤ 131072 := by omega
      have hbd : decide (131072 < S.size) = false := by simpa using hbig
      have hbd2 : decide ((131072 : Int) < (S.size : Int)) = false := by simp; omega
      clear hbig
      go_wp2_with fail
      refine (HE1.out w4 HB4.out).mono ?_
      rintro e w5 ⟨rfl, hb5⟩
      replace c0 := below_keeps hb5 _ _ c0
      replace c1 := below_keeps hb5 _ _ c1
      replace c2 := below_keeps hb5 _ _ c2
      have HB5 := Lib.hid (HB4.out.trans (hb5.mono HB4.out.size)); clear hb5
      by_cases hf : f = 0
      · have hf1 : (f == 0) = true := by simp [hf]
        have hP := HF.out hf
        clear hf
        go_wp2_with fail
        refine (HD.out w5 HB5.out).mono ?_
        rintro e w6 ⟨l1, sx1, a1, n1, cc1, rfl, hn1, hb6⟩
        rw [hP] at hn1 ⊢
        have hbw7 : Below w6.heap.size w6 (w6.alloc (.cells #[.bool l1, .string sx1, .slice a1 n1 cc1] 24)) := (Below.refl _ w6).alloc (Nat.le_refl _) _
        obtain ⟨m0, m1, m2⟩ := box_cells w6 (.bool l1) (.string sx1) (.slice a1 n1 cc1)
        obtain ⟨w7, hw7⟩ : ∃ w7, w6.alloc (.cells #[.bool l1, .string sx1, .slice a1 n1 cc1] 24) = w7 := ⟨_, rfl⟩
        rw [hw7] at hbw7 m0 m1 m2
        have hb67 := hb6.trans (hbw7.mono hb6.size)
        replace c0 := below_keeps hb67 _ _ c0
        replace c1 := below_keeps hb67 _ _ c1
        replace c2 := below_keeps hb67 _ _ c2
        have HB7 := Lib.hid (HB5.out.trans (hb67.mono HB5.out.size))
        have hS7 := samef_any t t w7 _ _ _ _ _ _ (hn1.below hbw7) (HN.out.below (HB5.out.trans (hb67.mono HB5.out.size)))
        rw [sameT_refl] at hS7
        have HS7 := Lib.hid hS7
        clear hn1 hb6 hb67 hbw7 hS7 hP
        go_wp2_with fail
        refine HS7.out.mono ?_
        rintro e w8 ⟨rfl, hb8⟩
        have HB8 := Lib.hid (HB7.out.trans (hb8.mono HB7.out.size)); clear hb8
        go_wp2_with fail
        refine (HDS.out w8 HB8.out).mono ?_
        rintro e y1 ⟨l2, sx2, a2, n2, cc2, rfl, hn2, hby⟩
        have hby2 : Below y1.heap.size y1 (y1.alloc (.cells #[.bool l2, .string sx2, .slice a2 n2 cc2] 24)) := (Below.refl _ y1).alloc (Nat.le_refl _) _
        obtain ⟨k0, k1, k2⟩ := box_cells y1 (.bool l2) (.string sx2) (.slice a2 n2 cc2)
        obtain ⟨y2, hy2⟩ : ∃ y2, y1.alloc (.cells #[.bool l2, .string sx2, .slice a2 n2 cc2] 24) = y2 := ⟨_, rfl⟩
        rw [hy2] at hby2 k0 k1 k2
        have HBY := Lib.hid (HB8.out.trans ((hby.trans (hby2.mono hby.size)).mono HB8.out.size))
        have HN2 := Lib.hid (hn2.below hby2)
        clear hn2 hby hby2
        rcases HSX.out with ⟨z, hs1, hs2⟩ | ⟨m, hs1, hs2⟩
        · rw [hs1]
          clear hs1
          go_wp2_with fail
          go_ret
          exact ⟨rfl, HBY.out⟩
        · have hE := enc_any m y2 _ _ _ (by have := HN2.out; rw [hs1] at this; exact this) (HTAB.out.below HBY.out)
          rw [hs2, HSL.out] at hE
          have HE2 := Lib.hid hE
          rw [hs1]
          clear hE hs1 hs2
          go_wp2_with fail
          refine HE2.out.mono ?_
          rintro e y3 ⟨rfl, hb3'⟩
          have HB3' := Lib.hid (HBY.out.trans (hb3'.mono HBY.out.size)); clear hb3'
          go_wp2_with fail
          go_ret
          exact ⟨by simp, HB3'.out⟩
      · have hf1 : (f == 0) = false := by simp [hf]
        clear hf
        go_wp2_with fail
        refine (HDS.out w5 HB5.out).mono ?_
        rintro e y1 ⟨l2, sx2, a2, n2, cc2, rfl, hn2, hby⟩
        have hby2 : Below y1.heap.size y1 (y1.alloc (.cells #[.bool l2, .string sx2, .slice a2 n2 cc2] 24)) := (Below.refl _ y1).alloc (Nat.le_refl _) _
        obtain ⟨k0, k1, k2⟩ := box_cells y1 (.bool l2) (.string sx2) (.slice a2 n2 cc2)
        obtain ⟨y2, hy2⟩ : ∃ y2, y1.alloc (.cells #[.bool l2, .string sx2, .slice a2 n2 cc2] 24) = y2 := ⟨_, rfl⟩
        rw [hy2] at hby2 k0 k1 k2
        have HBY := Lib.hid (HB5.out.trans ((hby.trans (hby2.mono hby.size)).mono HB5.out.size))
        have HN2 := Lib.hid (hn2.below hby2)
        clear hn2 hby hby2
        rcases HSX.out with ⟨z, hs1, hs2⟩ | ⟨m, hs1, hs2⟩
        · rw [hs1]
          clear hs1
          go_wp2_with fail
          go_ret
          exact ⟨rfl, HBY.out⟩
        · have hE := enc_any m y2 _ _ _ (by have := HN2.out; rw [hs1] at this; exact this) (HTAB.out.below HBY.out)
          rw [hs2, HSL.out] at hE
          have HE2 := Lib.hid hE
          rw [hs1]
          clear hE hs1 hs2
          go_wp2_with fail
          refine HE2.out.mono ?_
          rintro e y3 ⟨rfl, hb3'⟩
          have HB3' := Lib.hid (HBY.out.trans (hb3'.mono HBY.out.size)); clear hb3'
          go_wp2_with fail
          go_ret
          exact ⟨by simp, HB3'.out⟩
  · go_wp2_with fail
    go_ret
    exact ⟨rfl, HB4.out⟩
end Go.Proofs.YtnekmmknjhflgaaDoor
