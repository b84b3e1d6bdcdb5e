/- DERIVED. The reference's text. -/
import Derived.Test.YtjcimajkjnjdpabGreatDoorSexpDec
import Derived.Test.YtjcimajkjnjdpabGreatDoorSexpParseB
namespace Go.Proofs.YtjcimajkjnjdpabGreatDoor
open Go.RowKit
set_option linter.unusedVariables false

def TextTo (w : World) (S : ByteArray) : Except Int (T × List UInt8) → Ending → World → Prop
  | .ok (t, r), e, w' => (∃ X, strV t.atom = .string X ∧ e = .returned (.tuple #[.agg #[.bool true, .string X, .slice none 0 0], .int .i64 ((S.size - r.length : Nat) : Int), .int .i64 0])) ∧ Below w.heap.size w w'
  | .error f, e, w' => e = .returned (.tuple #[.agg #[.bool false, .string ⟨#[]⟩, .slice none 0 0], .int .i64 0, .int .i64 f]) ∧ Below w.heap.size w w'
set_option maxRecDepth 100000 in
set_option maxHeartbeats 4000000 in
theorem text_any (w : World) (S : ByteArray) (hS : S.size ≤ 65536) (h0 : 0 < S.size) : Calls Tryz.prog 74 #[.string S] w (TextTo w S (textT S.data.toList)) := by
  have hb1 : Below w.heap.size w (w.alloc (.cells #[.bool false, .string ⟨#[]⟩, .slice none 0 0] 50)) := (Below.refl _ w).alloc (Nat.le_refl _) _
  have hbx := heap_alloc_new w (.cells #[.bool false, .string ⟨#[]⟩, .slice none 0 0] 50)
  obtain ⟨w1, hw1⟩ : ∃ w1, w.alloc (.cells #[.bool false, .string ⟨#[]⟩, .slice none 0 0] 50) = w1 := ⟨_, rfl⟩
  rw [hw1] at hb1 hbx
  obtain ⟨b, hbe⟩ : ∃ b, w.heap.size = b := ⟨_, rfl⟩
  rw [hbe] at hbx
  have b0 := cell_of_heap hbx 0
  have b1 := cell_of_heap hbx 1
  have b2 := cell_of_heap hbx 2
  have bf := frozen_of_heap hbx
  obtain ⟨sl, hsl⟩ : ∃ sl, sl = S.data.toList := ⟨_, rfl⟩
  have hSl : S.size = sl.length := by rw [hsl]; simp
  have hget : ∀ (i : Nat) (h : i < S.size), ∃ c, sl[i]? = some c ∧ S[i] = c := by
    intro i h
    have hi : i < sl.length := by rw [← hSl]; exact h
    refine ⟨sl[i], List.getElem?_eq_getElem hi, ?_⟩
    subst hsl; rfl
  rw [← hsl]
  obtain ⟨j, hj5, hjl, hjd, hjs⟩ := digits_ofm sl 5
  have hjS : j ≤ S.size := by omega
  obtain ⟨c0, hc0, hcc0⟩ := hget 0 h0
  obtain ⟨z0, hz0⟩ : ∃ z : Int, z = ((S[0]'h0).toNat : Int) := ⟨_, rfl⟩
  have hz00 := hz0.symm
  have hzc0 : z0 = (c0.toNat : Int) := by rw [hz0, hcc0]
  have hhead : sl.head? = some c0 := by rw [← hc0]; cases sl <;> rfl
  obtain ⟨R, hR⟩ : ∃ R, R = textT sl := ⟨_, rfl⟩
  rw [← hR]
  have hbad : ∀ v0 v1 v2, R = .error 5 → TextTo w S R (.returned (.tuple #[.agg #[.bool false, .string ⟨#[]⟩, .slice none 0 0], .int .i64 0, .int .i64 5])) (((w1.setCell ⟨b, 0, none⟩ v0).setCell ⟨b, 1, none⟩ v1).setCell ⟨b, 2, none⟩ v2) := by
    intro v0 v1 v2 he
    rw [he]
    exact ⟨rfl, ((hb1.setCell (by simp; omega) _).setCell (by simp; omega) _).setCell (by simp; omega) _⟩
  have HBAD := Lib.hid hbad; have HJD := Lib.hid hjd; have HJS := Lib.hid hjs; have HGET := Lib.hid hget; have HSL := Lib.hid hSl; have HR := Lib.hid hR; have HJL := Lib.hid hjl; have HSLE := Lib.hid hsl; have HB1 := Lib.hid hb1
  have HZC := Lib.hid hzc0; have HHEAD := Lib.hid hhead
  clear hbad hjd hjs hget hSl hR hbx hsl hz0 hcc0 hc0 hzc0 hhead hjl hb1
  go_enter Tryz.func74, Tryz.ntmps74
  go_upto_block 0 with fail
  go_cut [5, 6] (fun x i wx => wx = w1 ∧ x = .int .i64 (decVal (sl.take j) : Nat) ∧ i = .int .i64 (j : Nat))
  case first =>
    go_wp2_with fail
    go_loopg [5, 6] j (fun g x y wx => ∃ i : Nat, i ≤ j ∧ g = j - i ∧ x = .int .i64 (decVal (sl.take i) : Nat) ∧ y = .int .i64 (i : Nat) ∧ wx = w1)
    case atStart => exact ⟨0, Nat.zero_le _, rfl, rfl, rfl, rfl⟩
    case round =>
      obtain ⟨i, hi, rfl, rfl, rfl, rfl⟩ := hrel
      obtain ⟨N, hN⟩ : ∃ N, N = decVal (sl.take i) := ⟨_, rfl⟩
      have hNl : N < 1000000 := by rw [hN]; exact decVal_take_lt hi (by omega) HJD.out
      rw [← hN]
      have HN := Lib.hid hN
      by_cases hij : i < j
      · obtain ⟨c, hc, hd⟩ := HJD.out i hij
        have hsnoc : decVal (sl.take (i + 1)) = N * 10 + (c.toNat - 48) := by rw [hN, take_get hc, decVal_snoc]
        have hd' := isDig_iff.1 hd
        have hpl : i < S.size := by omega
        obtain ⟨c', hc', hcc⟩ := HGET.out i hpl
        obtain rfl : c' = c := Option.some.inj (hc'.symm.trans hc)
        obtain ⟨z, hz⟩ : ∃ z : Int, z = ((S[i]'hpl).toNat : Int) := ⟨_, rfl⟩
        have hz1 : 48 ≤ z ∧ z ≤ 57 := by rw [hz, hcc]; omega
        have hzc : ((N * 10 + (c'.toNat - 48) : Nat) : Int) = (N : Int) * 10 + (z - 48) := by rw [hz, hcc]; omega
        have hz2 := hz.symm
        have HSN := Lib.hid (hsnoc.trans rfl); have HZC2 := Lib.hid hzc
        have hi5 : i < 5 := by omega
        have hw8 : IntKind.u8.wrap (z - 48) = z - 48 := by simp [IntKind.wrap, IntKind.bits, IntKind.signed]; omega
        clear hN hsnoc hcc hz hzc hc hc' hd'
        go_wp2_with fail
        go_roundg (j - (i + 1))
        case measure => omega
        case rel => exact ⟨i + 1, hij, rfl, by rw [HSN.out, HZC2.out], by go_num, rfl⟩
      · obtain rfl : i = j := by omega
        by_cases hpl : i < S.size
        · obtain ⟨c, hc, hcc⟩ := HGET.out i hpl
          obtain ⟨z, hz⟩ : ∃ z : Int, z = ((S[i]'hpl).toNat : Int) := ⟨_, rfl⟩
          have hz2 := hz.symm
          have hdz : isDig c = decide (48 ≤ z ∧ z ≤ 57) := by rw [hz, hcc]; unfold isDig; rw [Bool.eq_iff_iff]; simp; omega
          by_cases h5 : i < 5
          · by_cases h48 : 48 ≤ z
            · have h57 : ¬ z ≤ 57 := by
                intro h57
                rcases HJS.out with h | h | ⟨c', h1, h2⟩
                · omega
                · rw [HSL.out] at hpl; omega
                · rw [hc] at h1
                  rw [← Option.some.inj h1, hdz] at h2
                  simp at h2; omega
              have h57d : decide (z ≤ 57) = false := by simpa using h57
              clear hN hcc hz hc hdz hi
              go_wp2_with fail
              go_meet
              exact ⟨rfl, by rw [HN.out], rfl⟩
            · have h48d : decide (48 ≤ z) = false := by simpa using h48
              clear hN hcc hz hc hdz hi
              go_wp2_with fail
              go_meet
              exact ⟨rfl, by rw [HN.out], rfl⟩
          · have h5d : decide ((i : Int) < 5) = false := by simp; omega
            clear hN hcc hz hc hdz hi
            go_wp2_with fail
            go_meet
            exact ⟨rfl, by rw [HN.out], rfl⟩
        · have hpd : decide (i < S.size) = false := by simpa using hpl
          clear hN hi
          go_wp2_with fail
          go_meet
          exact ⟨rfl, by rw [HN.out], rfl⟩
  case rest =>
    obtain ⟨rfl, rfl, rfl⟩ := hcut
    obtain ⟨N, hN⟩ : ∃ N, N = decVal (sl.take j) := ⟨_, rfl⟩
    have hNl : N < 1000000 := by rw [hN]; exact decVal_take_lt (Nat.le_refl _) (by omega) HJD.out
    rw [← hN]
    have HN := Lib.hid hN
    clear hN
    by_cases hj0 : j = 0
    · have hjd : ((j : Int) == 0) = true := by simp [hj0]
      have HTX := Lib.hid (show R = .error 5 from by rw [HR.out]; exact textT_bad5 hj5 HJL.out HJD.out HJS.out (.inl hj0))
      clear hj0
      go_wp2_with fail
      refine bodyPost_ret (v := .tuple #[.agg #[.bool false, .string ⟨#[]⟩, .slice none 0 0], .int .i64 0, .int .i64 5]) (by simp [results, Tryz.results74, go_sem, b0, b1, b2]) rfl ?_
      exact HBAD.out _ _ _ HTX.out
    · have hjd : ((j : Int) == 0) = false := by simp; omega
      have hj1 : 1 ≤ j := by omega
      by_cases hh : c0 = 48 ∧ 1 < j
      · obtain ⟨h48, h1j⟩ := hh
        have hz48 : (z0 == 48) = true := by rw [HZC.out, h48]; rfl
        have HTX := Lib.hid (show R = .error 5 from by rw [HR.out]; exact textT_bad5 hj5 HJL.out HJD.out HJS.out (.inr (.inl ⟨by rw [HHEAD.out, h48], h1j⟩)))
        clear hj0 h48
        go_wp2_with fail
        refine bodyPost_ret (v := .tuple #[.agg #[.bool false, .string ⟨#[]⟩, .slice none 0 0], .int .i64 0, .int .i64 5]) (by simp [results, Tryz.results74, go_sem, b0, b1, b2]) rfl ?_
        exact HBAD.out _ _ _ HTX.out
      · have hv : ((z0 == 48) = false) ∨ ((z0 == 48) = true ∧ ¬ (1 < j) ∧ decide (1 < j) = false ∧ decide ((1 : Int) < (j : Int)) = false) := by
          by_cases h48 : c0 = 48
          · right
            have : ¬ (1 < j) := fun h => hh ⟨h48, h⟩
            exact ⟨by rw [HZC.out, h48]; rfl, this, by simpa using this, by simp; omega⟩
          · left
            simp only [beq_eq_false_iff_ne]
            rw [HZC.out]
            intro h; apply h48; apply UInt8.toNat.inj; simp; omega
        have HHD := Lib.hid (show sl.head? ≠ some 48 ∨ j = 1 from by
          rw [HHEAD.out]
          by_cases h48 : c0 = 48
          · right; have : ¬ (1 < j) := fun h => hh ⟨h48, h⟩; omega
          · left; intro h; exact h48 (Option.some.inj h))
        clear hh
        by_cases hpe : j = S.size
        · have hpd : ((j : Int) == (S.size : Int)) = true := by simp [hpe]
          have HTX := Lib.hid (show R = .error 5 from by rw [HR.out]; exact textT_bad5 hj5 HJL.out HJD.out HJS.out (.inr (.inr (.inl (by have := HSL.out; omega)))))
          clear hpe hj0
          rcases hv with hv1 | ⟨hv1, hv2, hv3, hv4⟩
          · skip
            go_wp2_with fail
            refine bodyPost_ret (v := .tuple #[.agg #[.bool false, .string ⟨#[]⟩, .slice none 0 0], .int .i64 0, .int .i64 5]) (by simp [results, Tryz.results74, go_sem, b0, b1, b2]) rfl ?_
            exact HBAD.out _ _ _ HTX.out
          · skip
            go_wp2_with fail
            refine bodyPost_ret (v := .tuple #[.agg #[.bool false, .string ⟨#[]⟩, .slice none 0 0], .int .i64 0, .int .i64 5]) (by simp [results, Tryz.results74, go_sem, b0, b1, b2]) rfl ?_
            exact HBAD.out _ _ _ HTX.out
        · have hpd : ((j : Int) == (S.size : Int)) = false := by simp; omega
          have hpl : j < S.size := by omega
          obtain ⟨c, hc, hcc⟩ := HGET.out j hpl
          obtain ⟨z, hz⟩ : ∃ z : Int, z = ((S[j]'hpl).toNat : Int) := ⟨_, rfl⟩
          have hz2 := hz.symm
          have hzc : z = (c.toNat : Int) := by rw [hz, hcc]
          clear hpe
          by_cases h58 : c = 58
          · have hd58 : (z != 58) = false := by rw [hzc, h58]; rfl
            have hd59 : (z == 58) = true := by rw [hzc, h58]; rfl
            have HC58 := Lib.hid (show sl[j]? = some 58 from by rw [hc, h58])
            clear hz hcc hzc hc h58
            by_cases hNb : (S.size : Int) - j - 1 < N
            · have hNd : decide ((S.size : Int) - j - 1 < N) = true := by simpa using hNb
              have HTX := Lib.hid (show R = .error 5 from by rw [HR.out]; exact textT_bad5 hj5 HJL.out HJD.out HJS.out (.inr (.inr (.inr (.inr (by rw [← HN.out]; have h1 := HSL.out; omega))))))
              clear hj0
              rcases hv with hv1 | ⟨hv1, hv2, hv3, hv4⟩
              · skip
                go_wp2_with fail
                refine bodyPost_ret (v := .tuple #[.agg #[.bool false, .string ⟨#[]⟩, .slice none 0 0], .int .i64 0, .int .i64 5]) (by simp [results, Tryz.results74, go_sem, b0, b1, b2]) rfl ?_
                exact HBAD.out _ _ _ HTX.out
              · skip
                go_wp2_with fail
                refine bodyPost_ret (v := .tuple #[.agg #[.bool false, .string ⟨#[]⟩, .slice none 0 0], .int .i64 0, .int .i64 5]) (by simp [results, Tryz.results74, go_sem, b0, b1, b2]) rfl ?_
                exact HBAD.out _ _ _ HTX.out
            · have hNd : decide ((S.size : Int) - j - 1 < N) = false := by simpa using hNb
              have htx := textT_good5 hj5 HJD.out hj0 HHD.out HC58.out (by rw [← HN.out]; have h1 := HSL.out; omega)
              rw [← HN.out] at htx
              obtain ⟨r, hr⟩ : ∃ r, r = j + 1 := ⟨_, rfl⟩
              obtain ⟨q, hq⟩ : ∃ q, q = j + 1 + N := ⟨_, rfl⟩
              have hqS : q ≤ S.size := by omega
              have hrq : r ≤ q := by omega
              have hfin : ∀ v0 v1 v2, TextTo w S R (.returned (.tuple #[.agg #[.bool true, .string (S.extract r q), .slice none 0 0], .int .i64 (q : Int), .int .i64 0])) (((wc.setCell ⟨b, 0, none⟩ v0).setCell ⟨b, 1, none⟩ v1).setCell ⟨b, 2, none⟩ v2) := by
                intro v0 v1 v2
                rw [HR.out, htx]
                refine ⟨⟨S.extract r q, ?_, ?_⟩, ((HB1.out.setCell (by simp; omega) _).setCell (by simp; omega) _).setCell (by simp; omega) _⟩
                · have e : S.extract r q = ⟨((sl.drop (j + 1)).take N).toArray⟩ := by
                    apply ByteArray.ext
                    apply Array.ext'
                    rw [ByteArray.data_extract, Array.toList_extract, List.extract_eq_take_drop, ← HSLE.out, hr, hq, show j + 1 + N - (j + 1) = N from by omega]
                  rw [e]; rfl
                · rw [show S.size - (sl.drop (j + 1 + N)).length = q from by rw [List.length_drop]; have := HSL.out; omega]
              have HFIN := Lib.hid hfin
              have e1 : (j : Int) + 1 = (r : Int) := by omega
              have e2 : (r : Int) + (N : Int) = (q : Int) := by omega
              have hrqI : (r : Int) ≤ (q : Int) := by omega
              have hqSI : (q : Int) ≤ (S.size : Int) := by omega
              clear hfin htx hr hq hj0
              rcases hv with hv1 | ⟨hv1, hv2, hv3, hv4⟩
              · skip
                go_wp2_with fail
                refine bodyPost_ret (v := .tuple #[.agg #[.bool true, .string (S.extract r q), .slice none 0 0], .int .i64 (q : Int), .int .i64 0]) (by simp [results, Tryz.results74, go_sem, b0, b1, b2]) rfl ?_
                exact HFIN.out _ _ _
              · skip
                go_wp2_with fail
                refine bodyPost_ret (v := .tuple #[.agg #[.bool true, .string (S.extract r q), .slice none 0 0], .int .i64 (q : Int), .int .i64 0]) (by simp [results, Tryz.results74, go_sem, b0, b1, b2]) rfl ?_
                exact HFIN.out _ _ _
          · have hd58 : (z != 58) = true := by simp; rw [hzc]; intro h; apply h58; apply UInt8.toNat.inj; simp; omega
            have hd59 : (z == 58) = false := by simpa using hd58
            have HTX := Lib.hid (show R = .error 5 from by rw [HR.out]; exact textT_bad5 hj5 HJL.out HJD.out HJS.out (.inr (.inr (.inr (.inl ⟨c, hc, h58⟩)))))
            clear hz hcc hzc hc h58 hj0
            rcases hv with hv1 | ⟨hv1, hv2, hv3, hv4⟩
            · skip
              go_wp2_with fail
              refine bodyPost_ret (v := .tuple #[.agg #[.bool false, .string ⟨#[]⟩, .slice none 0 0], .int .i64 0, .int .i64 5]) (by simp [results, Tryz.results74, go_sem, b0, b1, b2]) rfl ?_
              exact HBAD.out _ _ _ HTX.out
            · skip
              go_wp2_with fail
              refine bodyPost_ret (v := .tuple #[.agg #[.bool false, .string ⟨#[]⟩, .slice none 0 0], .int .i64 0, .int .i64 5]) (by simp [results, Tryz.results74, go_sem, b0, b1, b2]) rfl ?_
              exact HBAD.out _ _ _ HTX.out
end Go.Proofs.YtjcimajkjnjdpabGreatDoor
