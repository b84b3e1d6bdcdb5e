/- DERIVED. The laws SexpReads, SexpTells, SexpBack, walked. -/
import Derived.Test.YtnekmmknjhflgaaDoorSexpSame
namespace Go.Proofs.YtnekmmknjhflgaaDoor
open Go.RowKit
set_option linter.unusedVariables false

/-- The node and the fault that Decode answers. -/
def decP : Except Int T → T × Int
  | .ok t => (t, 0)
  | .error f => (.mk false [] [], f)
theorem NodeAt.zero (w : World) : NodeAt w (.mk false [] []) (.bool false) (.string ⟨#[]⟩) (.slice none 0 0) := by
  unfold NodeAt
  exact ⟨rfl, rfl, Nat.zero_le _, Nat.zero_le _, none, 0, rfl, Nat.le_refl _, Nat.zero_le _, fun _ => rfl, .inl rfl⟩
/-- What Decode answers, in one form. -/
def FlatTo (w : World) (X : Except Int T) (e : Ending) (w' : World) : Prop :=
  ∃ l sx a n c, e = .returned (.tuple #[.agg #[.bool l, .string sx, .slice a n c], .int .i64 (decP X).2]) ∧ NodeAt w' (decP X).1 (.bool l) (.string sx) (.slice a n c) ∧ Below w.heap.size w w'
theorem DecTo.flat {w w' : World} {X : Except Int T} {e : Ending} (h : DecTo w X e w') : FlatTo w X e w' := by
  cases X with
  | error f =>
    obtain ⟨rfl, hb⟩ := h
    exact ⟨_, _, _, _, _, rfl, NodeAt.zero w', hb⟩
  | ok t =>
    obtain ⟨v0, v1, v2, G, rfl, hb, hm⟩ := h
    obtain ⟨l, sx, a, n, c, rfl, rfl, rfl⟩ := hm.node.form
    exact ⟨l, sx, a, n, c, rfl, hm.node.at, hb⟩
theorem decf_any (w : World) (S : ByteArray) (hS : S.size ≤ 140737488351232) (ht : Tab w) : Calls Tryd.prog 13 #[.string S] w (FlatTo w (decT S.data.toList)) := (dec_any w S hS ht).mono fun _ _ h => h.flat
theorem rdecf_any (w : World) (S : ByteArray) (hS : S.size ≤ 140737488351232) : Calls Tryd.prog 14 #[.string S] w (FlatTo w (decT S.data.toList)) := (rdec_any w S hS).mono fun _ _ h => h.flat
theorem samef_any (t u : T) (w : World) (v0 v1 v2 x0 x1 x2 : Value) (h : NodeAt w t v0 v1 v2) (h' : NodeAt w u x0 x1 x2) : Calls Tryd.prog 15 #[.agg #[v0, v1, v2], .agg #[x0, x1, x2]] w (fun e w' => e = .returned (.bool (sameT t u)) ∧ Below w.heap.size w w') :=
  same_any (SizeOf.sizeOf t) t u (Nat.le_refl _) w v0 v1 v2 x0 x1 x2 h h'
theorem enc_same {t u : T} {x x' : List UInt8} (h : encT t = (x, 0)) (h' : encT u = (x', 0)) : (x == x') = sameT t u := by
  rw [Bool.eq_iff_iff, beq_iff_eq, sameT_iff]
  constructor
  · rintro rfl
    have := (dec_enc t x h).symm.trans (dec_enc u x h')
    exact Except.ok.inj this
  · rintro rfl
    rw [h] at h'
    exact (Prod.mk.inj h').1
set_option maxHeartbeats 2000000 in
theorem sreads_any (S : ByteArray) (w : World) (hS : S.size ≤ 140737488351232) (htab : Tab w) :
    Calls Tryd.prog 4 #[.string S] w (fun e w' => e = .returned (.bool true) ∧ Below w.heap.size w w') := by
  have HAL := Lib.hid (alive_any w htab)
  have HD := Lib.hid (fun W (hb : Below w.heap.size w W) => decf_any W S hS (htab.below hb))
  have HR := Lib.hid (fun W => rdecf_any W S hS)
  obtain ⟨X, hX⟩ : ∃ X, X = decT S.data.toList := ⟨_, rfl⟩
  rw [← hX] at HD HR
  clear hX htab
  go_enter Tryd.func4, Tryd.ntmps4
  go_wp2_with fail
  refine HAL.out.mono ?_
  rintro e w2 ⟨rfl, hb2⟩
  have HB2 := Lib.hid hb2; clear hb2
  by_cases hbig : 131072 < S.size
  · go_wp2_with fail
    go_ret
    exact ⟨rfl, HB2.out⟩
  · have hbig' : S.size ≤ 131072 := by omega
    clear hbig
    go_wp2_with fail
    refine (HD.out w2 HB2.out).mono ?_
    rintro e w3 ⟨l, sx, a, n, c, rfl, hn, hb3⟩
    obtain ⟨y, hy⟩ : ∃ y, y = (decP X).2 := ⟨_, rfl⟩
    rw [← hy]
    have hbw4 : Below w3.heap.size w3 (w3.alloc (.cells #[.bool l, .string sx, .slice a n c] 24)) := (Below.refl _ w3).alloc (Nat.le_refl _) _
    obtain ⟨m0, m1, m2⟩ := box_cells w3 (.bool l) (.string sx) (.slice a n c)
    obtain ⟨w4, hw4⟩ : ∃ w4, w3.alloc (.cells #[.bool l, .string sx, .slice a n c] 24) = w4 := ⟨_, rfl⟩
    rw [hw4] at hbw4 m0 m1 m2
    have HN := Lib.hid (hn.below hbw4)
    have HB4 := Lib.hid (HB2.out.trans ((hb3.trans (hbw4.mono hb3.size)).mono HB2.out.size))
    have HY := Lib.hid hy
    clear hn hb3 hbw4 hy
    go_wp2_with fail
    refine (HR.out w4).mono ?_
    rintro e w5 ⟨l', sx', a', n', c', rfl, hn', hb5⟩
    rw [← HY.out]
    have hbw6 : Below w5.heap.size w5 (w5.alloc (.cells #[.bool l', .string sx', .slice a' n' c'] 24)) := (Below.refl _ w5).alloc (Nat.le_refl _) _
    obtain ⟨k0, k1, k2⟩ := box_cells w5 (.bool l') (.string sx') (.slice a' n' c')
    obtain ⟨w6, hw6⟩ : ∃ w6, w5.alloc (.cells #[.bool l', .string sx', .slice a' n' c'] 24) = w6 := ⟨_, rfl⟩
    rw [hw6] at hbw6 k0 k1 k2
    have hb56 := hb5.trans (hbw6.mono hb5.size)
    replace m0 := below_keeps hb56 _ _ m0
    replace m1 := below_keeps hb56 _ _ m1
    replace m2 := below_keeps hb56 _ _ m2
    have HS := Lib.hid (samef_any _ _ w6 _ _ _ _ _ _ (HN.out.below hb56) (hn'.below hbw6))
    rw [sameT_refl] at HS
    have HB6 := Lib.hid (HB4.out.trans (hb56.mono HB4.out.size))
    have hyy : (y == y) = true := by simp
    clear hn' hb5 hb56 hbw6
    go_wp2_with fail
    refine HS.out.mono ?_
    rintro e w7 ⟨rfl, hb7⟩
    have HB7 := Lib.hid (HB6.out.trans (hb7.mono HB6.out.size)); clear hb7
    go_wp2_with fail
    go_ret
    exact ⟨rfl, HB7.out⟩
set_option maxHeartbeats 4000000 in
theorem tells_any (t u : T) (w : World) (v0 v1 v2 x0 x1 x2 : Value) (hn : NodeAt w t v0 v1 v2) (hn' : NodeAt w u x0 x1 x2) (htab : Tab w) :
    Calls Tryd.prog 6 #[.agg #[v0, v1, v2], .agg #[x0, x1, x2]] w (fun e w' => e = .returned (.bool true) ∧ Below w.heap.size w w') := by
  obtain ⟨c0, c1, c2⟩ := box_cells w v0 v1 v2
  have hb1 : Below w.heap.size w (w.alloc (.cells #[v0, v1, v2] 24)) := (Below.refl _ w).alloc (Nat.le_refl _) _
  obtain ⟨w1, hw1⟩ : ∃ w1, w.alloc (.cells #[v0, v1, v2] 24) = w1 := ⟨_, rfl⟩
  rw [hw1] at hb1 c0 c1 c2
  obtain ⟨d0, d1, d2⟩ := box_cells w1 x0 x1 x2
  have hb2 : Below w1.heap.size w1 (w1.alloc (.cells #[x0, x1, x2] 24)) := (Below.refl _ w1).alloc (Nat.le_refl _) _
  obtain ⟨w2, hw2⟩ : ∃ w2, w1.alloc (.cells #[x0, x1, x2] 24) = w2 := ⟨_, rfl⟩
  rw [hw2] at hb2 d0 d1 d2
  replace c0 := below_keeps hb2 _ _ c0
  replace c1 := below_keeps hb2 _ _ c1
  replace c2 := below_keeps hb2 _ _ c2
  have hb12 := hb1.trans (hb2.mono hb1.size)
  have HAL := Lib.hid (alive_any w2 (htab.below hb12))
  have HG1 := Lib.hid (fun W (hb : Below w.heap.size w W) => great_any t W v0 v1 v2 (hn.below hb))
  have HG2 := Lib.hid (fun W (hb : Below w.heap.size w W) => great_any u W x0 x1 x2 (hn'.below hb))
  have HE1 := Lib.hid (fun W (hb : Below w.heap.size w W) => enc_any t W v0 v1 v2 (hn.below hb) (htab.below hb))
  have HE2 := Lib.hid (fun W (hb : Below w.heap.size w W) => enc_any u W x0 x1 x2 (hn'.below hb) (htab.below hb))
  have HS := Lib.hid (fun W (hb : Below w.heap.size w W) => samef_any t u W v0 v1 v2 x0 x1 x2 (hn.below hb) (hn'.below hb))
  have HB := Lib.hid hb12
  obtain ⟨X, hX, hX'⟩ : ∃ X : ByteArray, strV (encT t).1 = .string X ∧ X.toList = (encT t).1 := ⟨_, rfl, by rw [Lib.toList_data]⟩
  obtain ⟨Y, hY, hY'⟩ : ∃ X : ByteArray, strV (encT u).1 = .string X ∧ X.toList = (encT u).1 := ⟨_, rfl, by rw [Lib.toList_data]⟩
  obtain ⟨f, hf⟩ : ∃ y, y = (encT t).2 := ⟨_, rfl⟩
  obtain ⟨g, hg⟩ : ∃ y, y = (encT u).2 := ⟨_, rfl⟩
  rw [hX, ← hf] at HE1
  rw [hY, ← hg] at HE2
  obtain ⟨q, hq⟩ : ∃ q, q = sameT t u := ⟨_, rfl⟩
  rw [← hq] at HS
  obtain ⟨q1, hq1⟩ : ∃ q, q = greatT t := ⟨_, rfl⟩
  obtain ⟨q2, hq2⟩ : ∃ q, q = greatT u := ⟨_, rfl⟩
  rw [← hq1] at HG1
  rw [← hq2] at HG2
  have hxy : f = 0 → g = 0 → (X.toList == Y.toList) = q := by
    intro h1 h2
    rw [hq, hX', hY']
    exact enc_same (Prod.ext rfl (hf.symm.trans h1)) (Prod.ext rfl (hg.symm.trans h2))
  have HXY := Lib.hid hxy
  obtain ⟨l, sx, a, n, c, rfl, rfl, rfl⟩ := hn.form
  obtain ⟨l', sx', a', n', c', rfl, rfl, rfl⟩ := hn'.form
  clear hxy hb1 hb2 hb12 hX hX' hY hY' hf hg hq hq1 hq2 hn hn' htab
  go_enter Tryd.func6, Tryd.ntmps6
  go_wp2_with fail
  refine HAL.out.mono ?_
  rintro e w3 ⟨rfl, hb3⟩
  replace c0 := below_keeps hb3 _ _ c0
  replace c1 := below_keeps hb3 _ _ c1
  replace c2 := below_keeps hb3 _ _ c2
  replace d0 := below_keeps hb3 _ _ d0
  replace d1 := below_keeps hb3 _ _ d1
  replace d2 := below_keeps hb3 _ _ d2
  have HB3 := Lib.hid (HB.out.trans (hb3.mono HB.out.size)); clear hb3
  go_wp2_with fail
  refine (HG1.out w3 HB3.out).mono ?_
  rintro e w4 ⟨rfl, hb4⟩
  replace c0 := below_keeps hb4 _ _ c0
  replace c1 := below_keeps hb4 _ _ c1
  replace c2 := below_keeps hb4 _ _ c2
  replace d0 := below_keeps hb4 _ _ d0
  replace d1 := below_keeps hb4 _ _ d1
  replace d2 := below_keeps hb4 _ _ d2
  have HB4 := Lib.hid (HB3.out.trans (hb4.mono HB3.out.size)); clear hb4
  cases q1
  · go_wp2_with fail
    refine (HG2.out w4 HB4.out).mono ?_
    rintro e w5 ⟨rfl, hb5⟩
    replace c0 := below_keeps hb5 _ _ c0
    replace c1 := below_keeps hb5 _ _ c1
    replace c2 := below_keeps hb5 _ _ c2
    replace d0 := below_keeps hb5 _ _ d0
    replace d1 := below_keeps hb5 _ _ d1
    replace d2 := below_keeps hb5 _ _ d2
    have HB5 := Lib.hid (HB4.out.trans (hb5.mono HB4.out.size)); clear hb5
    cases q2
    · go_wp2_with fail
      refine (HE1.out w5 HB5.out).mono ?_
      rintro e w6 ⟨rfl, hb6⟩
      replace c0 := below_keeps hb6 _ _ c0
      replace c1 := below_keeps hb6 _ _ c1
      replace c2 := below_keeps hb6 _ _ c2
      replace d0 := below_keeps hb6 _ _ d0
      replace d1 := below_keeps hb6 _ _ d1
      replace d2 := below_keeps hb6 _ _ d2
      have HB6 := Lib.hid (HB5.out.trans (hb6.mono HB5.out.size)); clear hb6
      go_wp2_with fail
      refine (HE2.out w6 HB6.out).mono ?_
      rintro e w7 ⟨rfl, hb7⟩
      replace c0 := below_keeps hb7 _ _ c0
      replace c1 := below_keeps hb7 _ _ c1
      replace c2 := below_keeps hb7 _ _ c2
      replace d0 := below_keeps hb7 _ _ d0
      replace d1 := below_keeps hb7 _ _ d1
      replace d2 := below_keeps hb7 _ _ d2
      have HB7 := Lib.hid (HB6.out.trans (hb7.mono HB6.out.size)); clear hb7
      by_cases hf : f = 0
      · have hf1 : (f != 0) = false := by simp [hf]
        by_cases hg : g = 0
        · have hg1 : (g != 0) = false := by simp [hg]
          have hxy := HXY.out hf hg
          clear hf hg
          go_wp2_with fail
          refine (HS.out w7 HB7.out).mono ?_
          rintro e w8 ⟨rfl, hb8⟩
          have HB8 := Lib.hid (HB7.out.trans (hb8.mono HB7.out.size)); clear hb8
          go_wp2_with fail
          go_ret
          exact ⟨by simp, HB8.out⟩
        · have hg1 : (g != 0) = true := by simp [hg]
          clear hf hg
          go_wp2_with fail
          go_ret
          exact ⟨rfl, HB7.out⟩
      · have hf1 : (f != 0) = true := by simp [hf]
        clear hf
        go_wp2_with fail
        go_ret
        exact ⟨rfl, HB7.out⟩
    · go_wp2_with fail
      go_ret
      exact ⟨rfl, HB5.out⟩
  · go_wp2_with fail
    go_ret
    exact ⟨rfl, HB4.out⟩
end Go.Proofs.YtnekmmknjhflgaaDoor
