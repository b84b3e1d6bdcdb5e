/- DERIVED. The law SexpLists, walked. -/
import Derived.Test.YtnekmmknjhflgabDoorSexpFlat
namespace Go.Proofs.YtnekmmknjhflgabDoor
open Go.RowKit
set_option linter.unusedVariables false

theorem counts_len : ∀ (ks : List T) (L : Int), 0 ≤ countsT L ks → (ks.length : Int) ≤ L
  | [], L, h => by unfold countsT at h; simpa using h
  | k :: ks, L, h => by
    unfold countsT at h
    split at h
    · have h1 := counts_len ks _ h
      have h2 := countT_le k L
      simp; omega
    · omega
theorem great_len {t : T} (h : greatT t = false) : t.kids.length ≤ 131072 := by
  obtain ⟨l, a, ks⟩ := t
  unfold greatT at h
  simp only [Bool.or_eq_false_iff, decide_eq_false_iff_not] at h
  have h1 := h.1
  unfold countT at h1
  have := counts_len ks _ (by omega : 0 ≤ countsT (131072 - 1 - a.length) ks)
  show ks.length ≤ _
  omega
theorem catsT_snoc (ks : List T) (t : T) : catsT (ks ++ [t]) = catsT ks ++ catT t := by
  induction ks with
  | nil => simp [catsT]
  | cons k ks ih => simp [catsT, ih]
theorem cats_take {ks : List T} {k : Nat} {t : T} (h : ks[k]? = some t) : catsT (ks.take (k + 1)) = catsT (ks.take k) ++ catT t := by
  obtain ⟨hk, rfl⟩ := List.getElem?_eq_some_iff.1 h
  rw [List.take_succ_eq_append_getElem hk, catsT_snoc]
theorem cats_take_le (ks : List T) (k : Nat) : (catsT (ks.take k)).length ≤ (catsT ks).length := by
  induction ks generalizing k with
  | nil => simp
  | cons x ks ih =>
    cases k with
    | zero => simp [catsT]
    | succ k => simp only [List.take_succ_cons, catsT, List.length_append]; have := ih k; omega
/-- A slice of nodes that came in. -/
theorem kids_src {w : World} {a : Option Addr} {c : Nat} {ts : List T} (hc : a = none → c = 0) (h : ts = [] ∨ ∃ b o, a = some ⟨b, o, none⟩ ∧ KidsAt w b o ts) : ∃ xs, KidsVA w ts xs ∧ ∀ W, Below w.heap.size w W → Src Tryd.prog 3 22 (.slice a ts.length c) ts.length xs W := by
  rcases h with rfl | ⟨b, o, rfl, h⟩
  · refine ⟨[], trivial, fun W _ => ?_⟩
    cases a with
    | none => exact Src.ofNil W Tryd.underlying22 c
    | some ad => exact Src.ofSlice W Tryd.underlying22 ad 0 c [] rfl (fun j u h => by cases h) (fun _ h => by cases h)
  · obtain ⟨xs, h1, h2⟩ := h.row
    exact ⟨xs, h1, fun W hW => Src.ofSlice W Tryd.underlying22 ⟨b, o, none⟩ _ c xs h1.len (fun j u h => by rw [Addr.add_lit]; exact below_keeps hW _ _ (h2 j u h)) h1.one⟩
set_option maxHeartbeats 4000000 in
theorem lists_any (ks : List T) (ad : Option Addr) (cp : Nat) (w : World) (hl : ks.length ≤ 140737488351232) (hlc : ks.length ≤ cp) (hcm : cp ≤ maxLen) (hnc : ad = none → cp = 0) (hk : ks = [] ∨ ∃ b o, ad = some ⟨b, o, none⟩ ∧ KidsAt w b o ks) (htab : Tab w) :
    Calls Tryd.prog 4 #[.slice ad ks.length cp] w (fun e w' => e = .returned (.bool true) ∧ Below w.heap.size w w') := by
  have hnode : NodeAt w (.mk false [] ks) (.bool false) (.string ⟨#[]⟩) (.slice ad ks.length cp) := by
    unfold NodeAt
    exact ⟨rfl, rfl, Nat.zero_le _, hl, ad, cp, rfl, hlc, hcm, hnc, hk⟩
  obtain ⟨xs, hxs, hsrc⟩ := kids_src hnc hk
  have hkids : ∀ (i : Nat) (k : T), ks[i]? = some k → ∃ b o u0 u1 u2, ad = some ⟨b, o, none⟩ ∧ w.cell? ⟨b, o + i * 3, none⟩ = some u0 ∧ w.cell? ⟨b, o + i * 3 + 1, none⟩ = some u1 ∧ w.cell? ⟨b, o + i * 3 + 2, none⟩ = some u2 ∧ NodeAt w k u0 u1 u2 := by
    intro i k hi
    rcases hk with rfl | ⟨b, o, e, h⟩
    · cases hi
    · obtain ⟨u0, u1, u2, g⟩ := KidsAt.get h i k hi
      exact ⟨b, o, u0, u1, u2, e, g⟩
  have HAL := Lib.hid (alive_any w htab)
  have HG := Lib.hid (fun W (hb : Below w.heap.size w W) => great_any (.mk false [] ks) W _ _ _ (hnode.below hb))
  obtain ⟨q, hq⟩ : ∃ q, q = greatT (.mk false [] ks) := ⟨_, rfl⟩
  rw [← hq] at HG
  have HGL := Lib.hid (show q = false → ks.length ≤ 131072 from fun h => great_len (hq.symm.trans h))
  have HLI := Lib.hid (fun W (hb : Below w.heap.size w W) (h : ks.length ≤ 131072) => list_any W ks ad cp xs (hxs.below hb) (by omega) hlc (fun W2 h2 => hsrc W2 (hb.trans (h2.mono hb.size))))
  have HTAB := Lib.hid htab; have HXS := Lib.hid hxs
  obtain ⟨f, hf⟩ : ∃ y, y = (encT (.mk false [] ks)).2 := ⟨_, rfl⟩
  obtain ⟨X, hX, hX'⟩ : ∃ X : ByteArray, strV (encT (.mk false [] ks)).1 = .string X ∧ X.toList = (encT (.mk false [] ks)).1 := ⟨_, rfl, by rw [Lib.toList_data]⟩
  have HEN := Lib.hid (show f = 0 → X.toList = 40 :: (catsT ks ++ [41]) ∧ (catsT ks).length ≤ 65534 ∧ ∀ k ∈ ks, encT k = (catT k, 0) from fun h => by
    obtain ⟨h1, h2, h3⟩ := enc_list ks (encT (.mk false [] ks)).1 (Prod.ext rfl (hf.symm.trans h))
    refine ⟨hX'.trans h1, ?_, h3⟩
    rw [h1] at h2; simp at h2; omega)
  have HEC := Lib.hid (fun W v0 v1 v2 (hn : NodeAt W (.mk false [] ks) v0 v1 v2) (hb : Below w.heap.size w W) => enc_any (.mk false [] ks) W v0 v1 v2 hn (htab.below hb))
  rw [hX, ← hf] at HEC
  obtain ⟨n, hn⟩ : ∃ n, n = ks.length := ⟨_, rfl⟩
  rw [← hn] at HG HLI HGL hl hlc ⊢
  have HN := Lib.hid hn; have HK := Lib.hid hkids
  clear hnode hxs hsrc hkids hk hq hf hX hX' hn htab hnc
  go_enter Tryd.func4, Tryd.ntmps4
  go_wp2_with fail
  refine HAL.out.mono ?_
  rintro e w2 ⟨rfl, hb2⟩
  obtain ⟨c0, c1, c2⟩ := box_cells w2 (.bool false) (.string ⟨#[]⟩) (.slice ad n cp)
  have hb3 : Below w2.heap.size w2 (w2.alloc (.cells #[.bool false, .string ⟨#[]⟩, .slice ad n cp] 24)) := (Below.refl _ w2).alloc (Nat.le_refl _) _
  obtain ⟨w3, hw3⟩ : ∃ w3, w2.alloc (.cells #[.bool false, .string ⟨#[]⟩, .slice ad n cp] 24) = w3 := ⟨_, rfl⟩
  rw [hw3] at hb3 c0 c1 c2
  have HB3 := Lib.hid (hb2.trans (hb3.mono hb2.size)); clear hb2 hb3
  go_wp2_with fail
  refine (HG.out w3 HB3.out).mono ?_
  rintro e w4 ⟨rfl, hb4⟩
  have HB4 := Lib.hid (HB3.out.trans (hb4.mono HB3.out.size)); clear hb4 c0 c1 c2
  cases q
  · have hnl := HGL.out rfl
    have hLI : Calls Tryd.prog 9 #[.slice ad n cp] w4 (fun e w' => ∃ a c, e = .returned (.agg #[.bool false, .string ⟨#[]⟩, .slice a n c]) ∧ NodeAt w' (.mk false [] ks) (.bool false) (.string ⟨#[]⟩) (.slice a n c) ∧ Below w.heap.size w w') := by
      refine (HLI.out w4 HB4.out hnl).mono ?_
      rintro e w' ⟨a, c, ys, rfl, hb, hk2, ho⟩
      have hnd := ListTo.node (by rw [← HN.out]; omega) hb hk2 ho
      rw [← HN.out] at hnd
      exact ⟨a, c, by rw [HN.out], hnd, HB4.out.trans (hb.mono HB4.out.size)⟩
    have HL2 := Lib.hid hLI; clear hLI
    go_wp2_with fail
    refine HL2.out.mono ?_
    rintro e w5 ⟨a5, c5, rfl, hn5, hb5⟩
    have hEC := HEC.out w5 _ _ _ hn5 hb5
    have HE5 := Lib.hid hEC; have HB5 := Lib.hid hb5; clear hEC hn5 hb5
    go_wp2_with fail
    refine HE5.out.mono ?_
    rintro e w6 ⟨rfl, hb6⟩
    have HB6 := Lib.hid (HB5.out.trans (hb6.mono HB5.out.size)); clear hb6
    by_cases hf : f = 0
    · have hf1 : (f != 0) = false := by simp [hf]
      obtain ⟨hx1, hx2, hx3⟩ := HEN.out hf
      have HX1 := Lib.hid hx1; have HX3 := Lib.hid hx3
      clear hf hx1 hx3
      go_wp2_with fail
      go_loopw [6, 27] (fun x i wr => ∃ (k : Nat) (Y : ByteArray), x = .string Y ∧ i = .int .i64 k ∧ k ≤ n ∧ Y.size ≤ 65536 ∧ Hid (Y.toList = 40 :: catsT (ks.take k)) ∧ Hid (Below w6.heap.size w6 wr)) (fun _ i _ => n - (intOf i).toNat)
      case atStart => exact ⟨0, ⟨#[40]⟩, rfl, rfl, Nat.zero_le _, by decide, by show _ = _; rw [List.take_zero, Lib.toList_data]; rfl, Below.refl _ w6⟩
      case round =>
        obtain ⟨k, Y, rfl, rfl, hkn, hYs, hY, hbw⟩ := hrel
        by_cases hlt : k < n
        · obtain ⟨t, ht⟩ : ∃ t, ks[k]? = some t := ⟨_, List.getElem?_eq_getElem (by rw [← HN.out]; exact hlt)⟩
          obtain ⟨b, o, u0, u1, u2, rfl, d0, d1, d2, hnt⟩ := HK.out k t ht
          have hbr : Below w.heap.size w wr := HB6.out.trans (hbw.out.mono HB6.out.size)
          replace d0 := below_keeps hbr _ _ d0
          replace d1 := below_keeps hbr _ _ d1
          replace d2 := below_keeps hbr _ _ d2
          have hnr := hnt.below hbr
          obtain ⟨l, sx, a, m, c, rfl, rfl, rfl⟩ := hnt.form
          obtain ⟨e0, e1, e2⟩ := box_cells wr (.bool l) (.string sx) (.slice a m c)
          have hb7 : Below wr.heap.size wr (wr.alloc (.cells #[.bool l, .string sx, .slice a m c] 24)) := (Below.refl _ wr).alloc (Nat.le_refl _) _
          obtain ⟨w7, hw7⟩ : ∃ w7, wr.alloc (.cells #[.bool l, .string sx, .slice a m c] 24) = w7 := ⟨_, rfl⟩
          rw [hw7] at hb7 e0 e1 e2
          obtain ⟨Z, hZ, hZ'⟩ : ∃ Z : ByteArray, strV (catT t) = .string Z ∧ Z.toList = catT t := ⟨_, rfl, by rw [Lib.toList_data]⟩
          have hE := enc_any t w7 _ _ _ (hnr.below hb7) (HTAB.out.below (hbr.trans (hb7.mono hbr.size)))
          rw [HX3.out t (List.mem_of_getElem? ht)] at hE
          dsimp only at hE
          rw [hZ] at hE
          have HE7 := Lib.hid hE
          have hcat := cats_take ht
          have hcl := cats_take_le ks (k + 1)
          have hYZ : (Y ++ Z).toList = 40 :: catsT (ks.take (k + 1)) := by
            rw [hcat, Lib.toList_data, ByteArray.data_append, Array.toList_append, ← Lib.toList_data, ← Lib.toList_data, hY.out, hZ']; rfl
          have hYZs : (Y ++ Z).size ≤ 65536 := by
            rw [show (Y ++ Z).size = (Y ++ Z).toList.length from by rw [Lib.toList_data]; simp, hYZ]
            simp; omega
          have hsz : Y.size + Z.size ≤ 65536 := by rw [← ByteArray.size_append]; exact hYZs
          have HYZ := Lib.hid hYZ; have HYZS := Lib.hid hYZs
          have HB7 := Lib.hid (hbw.out.trans (hb7.mono hbw.out.size))
          clear hE hcat hcl hYZ hYZs hZ hZ' hnt hnr ht hbr hb7
          go_wp2_with fail
          refine HE7.out.mono ?_
          rintro e w8 ⟨rfl, hb8⟩
          have HB8 := Lib.hid (HB7.out.trans (hb8.mono HB7.out.size)); clear hb8
          go_wp2_with fail
          go_roundw
          case rel => exact ⟨k + 1, _, rfl, by go_num, hlt, HYZS.out, HYZ, HB8.out⟩
          case measure => simp [intOf]; omega
        · obtain rfl : k = n := by omega
          have hfin : (X.toList == (Y ++ ⟨#[41]⟩).toList) = true := by
            have h1 := hY.out
            rw [List.take_of_length_le (by rw [← HN.out]; exact Nat.le_refl _)] at h1
            rw [beq_iff_eq, HX1.out, Lib.toList_data, ByteArray.data_append, Array.toList_append, ← Lib.toList_data, h1]; rfl
          have h41 : (⟨#[41]⟩ : ByteArray).size = 1 := rfl
          go_wp2_with fail
          go_ret
          exact ⟨by first | rfl | simp, HB6.out.trans (hbw.out.mono HB6.out.size)⟩
    · have hf1 : (f != 0) = true := by simp [hf]
      clear hf
      go_wp2_with fail
      go_ret
      exact ⟨rfl, HB6.out⟩
  · go_wp2_with fail
    go_ret
    exact ⟨rfl, HB4.out⟩
end Go.Proofs.YtnekmmknjhflgabDoor
