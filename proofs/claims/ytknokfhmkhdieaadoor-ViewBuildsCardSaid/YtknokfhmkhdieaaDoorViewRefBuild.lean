/- DERIVED. The reference's Build, walked. -/
import Derived.Test.YtknokfhmkhdieaaDoorViewBuild
import Derived.Test.YtknokfhmkhdieaaDoorTreeRefMount
import Derived.Deep.DeepCutAuto
namespace Go.Proofs.YtknokfhmkhdieaaDoor
open Go.RowKit
set_option linter.unusedVariables false

set_option maxRecDepth 100000 in
set_option maxHeartbeats 16000000 in
theorem rbuild_any (w : World) (a : Option Addr) (c : Nat) (ms : List Mt) (hr : RdMt w a ms) (hcap : ms.length ≤ c) (hcm : c ≤ maxLen) (hn : ms.length ≤ 1000000) (hok : MtOk ms) :
    Calls Tryd.prog 11 #[.slice a ms.length c] w (MakeTo w (buildT ms)) := by
  obtain ⟨w1, hw1, hb1, hx1, hz1, hz2⟩ := new_cell w (.slice none 0 0) 27
  obtain ⟨b, hbe⟩ : ∃ b, w.heap.size = b := ⟨_, rfl⟩
  rw [hbe] at hx1 hz1 hz2
  obtain ⟨n, hnn⟩ : ∃ n, n = ms.length := ⟨_, rfl⟩
  obtain ⟨X, hX⟩ : ∃ X, X = buildT ms := ⟨_, rfl⟩
  have hkeep : ∀ W, Below w1.heap.size w1 W → W.heap[b]? = some (.cells #[.slice none 0 0] 27 (0, 0)) := fun W h => (h.block b (by omega)).trans hx1
  have hout : ∀ x W, X = (x, []) → Below w1.heap.size w1 W → ∀ v, MakeTo w X (.returned (.tuple #[.agg #[.slice none 0 0], .int .i64 x])) (W.setCell ⟨b, 0, none⟩ v) := fun x W hx hW v => by
    rw [hx]
    exact makeTo_err w _ x ((hb1.trans (hW.mono hb1.size)).setCell (p := ⟨b, 0, none⟩) (by show w.heap.size ≤ b; omega) v)
  rw [← hnn, ← hX]
  rw [← hnn] at hn hcap
  have HR := Lib.hid (hr.below hb1); have HN := Lib.hid hnn; have HX := Lib.hid hX; have HKEEP := Lib.hid hkeep; have HOUT := Lib.hid hout; have HOK := Lib.hid hok; have HB1 := Lib.hid hb1; have HZ := Lib.hid (And.intro hz1 hz2); have HWB := Lib.hid hbe
  clear hr hnn hX hkeep hout hok hb1 hx1 hz1 hz2
  unfold maxLen at hcm
  go_enter Tryd.func11, Tryd.ntmps11
  go_wp2_with fail
  go_loopw [19] (fun x wr => ∃ k : Nat, x = .int .i64 k ∧ k ≤ n ∧ Hid (checkT [] ms = checkT (ms.take k) (ms.drop k)) ∧ Hid (Below w1.heap.size w1 wr)) (fun x _ => n - (intOf x).toNat)
  case atStart => exact ⟨0, rfl, Nat.zero_le _, rfl, Below.refl _ _⟩
  case round =>
    obtain ⟨k, rfl, hkn, hck, hbw⟩ := hrel
    by_cases hlt : k < n
    · obtain ⟨m, hm⟩ : ∃ m, ms[k]? = some m := ⟨_, List.getElem?_eq_getElem (by rw [← HN.out]; exact hlt)⟩
      obtain ⟨rb, o, rfl, _, hcs⟩ := HR.out.below hbw.out (fun e => by rw [e] at hm; cases hm)
      obtain ⟨p0, _⟩ := hcs k m hm
      have hml := HOK.out.dir m (List.mem_of_getElem? hm)
      have hG := fun W => rgood_any ⟨m.1.toArray⟩ W (by rw [str_size]; omega)
      dsimp only at hG
      obtain ⟨S1, hS1⟩ : ∃ S : ByteArray, S = ⟨m.1.toArray⟩ := ⟨_, rfl⟩
      have hS1z : S1.size ≤ 400000 := by rw [hS1, str_size]; exact hml
      unfold strV at p0
      rw [← hS1] at hG p0
      have hat := hck.out.trans (checkT_at hm)
      have HM := Lib.hid hm; have HS1 := Lib.hid hS1
      clear hcs hm hS1
      cases hgood : goodB m.1
      · rw [hgood, if_pos rfl] at hat
        rw [hgood] at hG
        have HE := Lib.hid (show X = (10, []) by rw [HX.out]; unfold buildT; rw [hat])
        have HG := Lib.hid hG
        clear hG hat hgood
        go_wp2_with fail
        refine (HG.out _).mono ?_
        rintro e w3 ⟨rfl, h3⟩
        have HB3 := Lib.hid (hbw.out.trans (h3.mono hbw.out.size))
        have hbq := HKEEP.out _ HB3.out
        have b0 := cell_of_heap hbq 0
        have bf := frozen_of_heap hbq
        clear h3 hbq p0
        go_wp2_with fail
        refine bodyPost_ret (v := .tuple #[.agg #[.slice none 0 0], .int .i64 10]) (by simp [results, Tryd.results11, go_sem, b0]) rfl ?_
        exact HOUT.out _ _ HE.out HB3.out _
      · rw [hgood, if_neg (by simp)] at hat
        rw [hgood] at hG
        have HG := Lib.hid hG; have HAT := Lib.hid hat
        clear hG hat hgood
        go_wp2_with fail
        refine (HG.out _).mono ?_
        rintro e w3 ⟨rfl, h3⟩
        have HB3 := Lib.hid (hbw.out.trans (h3.mono hbw.out.size))
        clear h3 p0
        go_wp2_with fail
        go_loopw [5] (fun x wv => ∃ j : Nat, x = .int .i64 j ∧ j ≤ k ∧ Hid ((ms.take j).any (fun x => nearB x.1 m.1) = false) ∧ Hid (Below w1.heap.size w1 wv)) (fun x _ => k - (intOf x).toNat)
        case atStart => exact ⟨0, rfl, Nat.zero_le _, rfl, HB3⟩
        case round =>
          obtain ⟨j, rfl, hjk, han, hbv⟩ := hrel
          by_cases hlt2 : j < k
          · obtain ⟨m2, hm2⟩ : ∃ m, ms[j]? = some m := ⟨_, List.getElem?_eq_getElem (by rw [← HN.out]; omega)⟩
            obtain ⟨rb2, o2, e2, _, hcs⟩ := HR.out.below hbv.out (fun e => by rw [e] at hm2; cases hm2)
            obtain ⟨rfl, rfl, _⟩ := Addr.mk.inj (Option.some.inj e2)
            obtain ⟨p0', _⟩ := hcs k m HM.out
            obtain ⟨q0', _⟩ := hcs j m2 hm2
            obtain ⟨A, hA⟩ : ∃ S : ByteArray, S = ⟨m2.1.toArray⟩ := ⟨_, rfl⟩
            have hAz : A.size ≤ 400000 := by rw [hA, str_size]; exact HOK.out.dir m2 (List.mem_of_getElem? hm2)
            unfold strV at p0' q0'
            rw [← HS1.out] at p0'
            rw [← hA] at q0'
            obtain ⟨ι, Fm, hF0, hFB, hFG⟩ := below_fam wr
            have hcF : ∀ a v, wr.cell? a = some v → ∀ n, (Fm n).cell? a = some v := fun a v h n => below_keeps (hFB n) _ _ h
            have p0 := hcF _ _ p0'
            have q0 := hcF _ _ q0'
            have hU := fun W => runder_any A S1 W hAz hS1z
            have hV := fun W => runder_any S1 A W hS1z hAz
            have hnr : nearB m2.1 m.1 = (decide (m2.1 = m.1) || (underP m2.1 m.1).2 || (underP m.1 m2.1).2) := rfl
            rw [show A.data.toList = m2.1 by rw [hA], show S1.data.toList = m.1 by rw [HS1.out]] at hU hV
            obtain ⟨u, hu⟩ : ∃ u, u = underP m2.1 m.1 := ⟨_, rfl⟩
            obtain ⟨v, hv⟩ : ∃ v, v = underP m.1 m2.1 := ⟨_, rfl⟩
            rw [← hu] at hU hnr
            rw [← hv] at hV hnr
            obtain ⟨u1, u2⟩ := u
            obtain ⟨v1, v2⟩ := v
            dsimp only at hU hV hnr
            unfold strV at hU hV
            obtain ⟨U, hU1⟩ : ∃ U : ByteArray, U = ⟨u1.toArray⟩ := ⟨_, rfl⟩
            obtain ⟨V, hV1⟩ : ∃ U : ByteArray, U = ⟨v1.toArray⟩ := ⟨_, rfl⟩
            rw [← hU1] at hU
            rw [← hV1] at hV
            have hq : (A.toList == S1.toList) = decide (m2.1 = m.1) := by
              rw [Lib.toList_data, Lib.toList_data, hA, HS1.out, Bool.eq_iff_iff, beq_iff_eq, decide_eq_true_iff]
            obtain ⟨q, hqq⟩ : ∃ q, q = decide (m2.1 = m.1) := ⟨_, rfl⟩
            rw [← hqq] at hq hnr
            obtain ⟨R, hR⟩ : ∃ R, R = nearB m2.1 m.1 := ⟨_, rfl⟩
            rw [← hR] at hnr
            have HU := Lib.hid hU; have HV := Lib.hid hV; have HNR := Lib.hid hnr; have HRR := Lib.hid hR; have HM2 := Lib.hid hm2
            have HF0 := Lib.hid hF0; have HFB := Lib.hid hFB; have HQ := Lib.hid hq
            clear hU hV hnr hR hm2 hu hv hU1 hV1 hqq hF0 hFB hFG hcF hcs p0' q0' hA hq e2
            go_wp2_with fail
            obtain ⟨n0, hn0⟩ := HF0.out 1
            have hne : Nonempty ι := ⟨n0⟩
            refine wp_region_fam Fm n0 hn0 (by kernel_rfl) (by kernel_rfl) ?_
            repeat (go_big_quiet_step (fail))
            refine wpQuiet_nil ?_
            intro _ hw'
            obtain ⟨m0, hw''⟩ := hw'
            subst hw''
            have hB1 := HFB.out m0
            clear p0 q0
            obtain ⟨W1, hW1⟩ : ∃ W1, W1 = Fm m0 := ⟨_, rfl⟩
            rw [← hW1] at hB1 ⊢
            have HBW := Lib.hid (hbv.out.trans (hB1.mono hbv.out.size))
            clear hW1 HFB HF0 hB1
            go_wp2_with fail
            refine (HU.out W1).mono ?_
            rintro e W2 ⟨rfl, h2⟩
            have HBW2 := Lib.hid (HBW.out.trans (h2.mono HBW.out.size)); clear h2
            go_wp2_with fail
            refine (HV.out W2).mono ?_
            rintro e W3 ⟨rfl, h3⟩
            have HBW3 := Lib.hid (HBW2.out.trans (h3.mono HBW2.out.size)); clear h3
            go_upto_region 12 with fail
            go_cut [65] (fun x wx => x = .bool R ∧ W3 = wx)
            case first =>
              have hq := HQ.out
              cases q <;> cases u2 <;> cases v2
              all_goals
                go_wp2_with fail
                go_meet
                exact ⟨by rw [show R = _ from HNR.out]; rfl, rfl⟩
            obtain ⟨rfl, rfl⟩ := hcut
            cases R
            · have HN2 := Lib.hid (any_next han.out HM2.out HRR.out.symm)
              go_wp2_with fail
              go_roundw
              case rel => exact ⟨j + 1, by go_num, hlt2, HN2, HBW3⟩
              case measure => simp [intOf]; omega
            · have HE := Lib.hid (show X = (12, []) by
                have hany : (ms.take k).any (fun x => nearB x.1 m.1) = true := any_here (k := j) (c := m2) (by rw [List.getElem?_take, if_pos hlt2]; exact HM2.out) HRR.out.symm
                rw [HX.out]
                unfold buildT
                rw [HAT.out, if_pos hany])
              have hbq := HKEEP.out _ HBW3.out
              have b0 := cell_of_heap hbq 0
              have bf := frozen_of_heap hbq
              clear hbq
              go_wp2_with fail
              refine bodyPost_ret (v := .tuple #[.agg #[.slice none 0 0], .int .i64 12]) (by simp [results, Tryd.results11, go_sem, b0]) rfl ?_
              exact HOUT.out _ _ HE.out HBW3.out _
          · have HA := Lib.hid (show checkT [] ms = checkT (ms.take (k + 1)) (ms.drop (k + 1)) by
              have hany := han.out
              rw [show j = k by omega] at hany
              rw [HAT.out, if_neg (by rw [hany]; simp)])
            go_wp2_with fail
            go_roundw
            case rel => exact ⟨k + 1, by go_num, hlt, HA, hbv⟩
            case measure => simp [intOf]; omega
    · have hX2 : X = mountAll [] ms := by
        rw [HX.out]
        unfold buildT
        rw [hck.out, List.drop_eq_nil_of_le (by rw [← HN.out]; omega)]
        rfl
      obtain ⟨w5, hw5⟩ : ∃ W, W = wr := ⟨_, rfl⟩
      rw [← hw5] at hbw ⊢
      obtain ⟨w2, hw2, hb2, hx2, hz3, hz4⟩ := new_cell w5 (.slice none 0 0) 27
      obtain ⟨B6, hbe6⟩ : ∃ b, w5.heap.size = b := ⟨_, rfl⟩
      rw [hbe6] at hx2 hz3 hz4
      have HB12 := Lib.hid (hbw.out.trans (hb2.mono hbw.out.size))
      have HZ6 := Lib.hid (show w1.heap.size ≤ B6 ∧ B6 < w2.heap.size ∧ b < w1.heap.size from by have := hbw.out.size; have := HZ.out.1; omega)
      have HX2 := Lib.hid hX2; have HX6 := Lib.hid hx2; have HW2 := Lib.hid hw2
      clear hX2 hw5 hbw hb2 hx2 hz3 hz4 hck hw2
      go_wp2_with fail
      rw [HW2.out]
      go_loopw [71] (fun x wr => ∃ (k : Nat) (out : List Pr) (ao : Option Addr) (co : Nat), x = .int .i64 k ∧ k ≤ n ∧ Hid (X = mountAll out (ms.drop k)) ∧ Hid (OutAt B6 w2.heap.size out wr ao co) ∧ Hid (goodT out = true) ∧ Hid (Ch [B6] w2 wr)) (fun x _ => n - (intOf x).toNat)
      case atStart => exact ⟨0, [], none, 0, rfl, Nat.zero_le _, HX2.out, ⟨HX6.out, .inl ⟨rfl, rfl, rfl⟩⟩, goodT_nil, Ch.refl _ _⟩
      case round =>
        obtain ⟨k, out, ao, co, rfl, hkn, hma, hoa, hgo, hch⟩ := hrel
        have HBR := Lib.hid (HB12.out.trans (below_of_ch hch.out (by intro x hx; rw [show x = B6 from by simpa using hx]; exact HZ6.out.1) HB12.out.size))
        obtain ⟨no, hno⟩ : ∃ no, no = out.length := ⟨_, rfl⟩
        have HNO := Lib.hid hno
        have hoc := hoa.out.cell
        rw [← hno] at hoc
        by_cases hlt : k < n
        · obtain ⟨m, hm⟩ : ∃ m, ms[k]? = some m := ⟨_, List.getElem?_eq_getElem (by rw [← HN.out]; exact hlt)⟩
          obtain ⟨rb, o, rfl, _, hcs⟩ := HR.out.below HBR.out (fun e => by rw [e] at hm; cases hm)
          obtain ⟨p0, av, cv, p1, hrf, hsl⟩ := hcs k m hm
          have hmem := List.mem_of_getElem? hm
          obtain ⟨S1, hS1⟩ : ∃ S : ByteArray, S = ⟨m.1.toArray⟩ := ⟨_, rfl⟩
          obtain ⟨nv, hnv⟩ : ∃ nv, nv = m.2.length := ⟨_, rfl⟩
          have hS1z : S1.size ≤ 400000 := by rw [hS1, str_size]; exact HOK.out.dir m hmem
          have hS1d : S1.data.toList = m.1 := by rw [hS1]
          unfold strV at p0
          rw [← hS1] at p0; rw [← hnv] at p1
          obtain ⟨w6, hw6, hb6, hfx, hz5, hz6⟩ := new_two wr (.string S1) (.slice av nv cv) 36
          have hM := rmount_any w6 ao av co cv out m.2 S1 ((hoa.out.row.below hb6).rd) hoa.out.row.sl (hrf.below hb6) hsl (by have := (good_len hgo.out).1; omega) (HOK.out.len m hmem) (fun p hp => by have := (good_len hgo.out).2 p hp; omega) (fun p hp => HOK.out.file m hmem p hp) hS1z
          rw [hS1d, ← hno, ← hnv] at hM
          have hat := hma.out.trans (mountAll_at hm out)
          have f0 := cell_of_heap hfx 0
          have f1 := cell_of_heap hfx 1
          have hc6 := (hb6.block B6 (lt_of_heap hoc)).trans hoc
          have q0 := cell_of_heap hc6 0
          have HC6 := Lib.hid hc6
          have HB6 := Lib.hid (HBR.out.trans (hb6.mono HBR.out.size)); have HCH6 := Lib.hid (hch.out.trans (Ch.of_below hb6 []) (by simp))
          cases hmt : mountT out m.1 m.2 with
          | mk x t =>
          rw [hmt] at hM hat
          unfold MakeTo at hM
          dsimp only at hM hat
          obtain ⟨nt, hnt⟩ : ∃ nt, nt = t.length := ⟨_, rfl⟩
          rw [← hnt] at hM
          have HM := Lib.hid hM; have HNT := Lib.hid hnt
          clear hcs hm hmem hS1 hnv hS1z hS1d hrf hsl hM hfx hc6 hb6 hz5 hz6 hnt hoc hno
          by_cases hx0 : x = 0
          · subst hx0
            rw [if_pos rfl] at hat
            have HAT := Lib.hid hat; have HGT := Lib.hid (mountT_good hmt)
            clear hat hmt
            go_wp2_with fail
            refine HM.out.mono ?_
            rintro e w7 ⟨a7, c7, rfl, hrow, hb7⟩
            obtain ⟨w8, hw8, hb8, hx8, hz7, hz8⟩ := new_cell w7 (.slice a7 nt c7) 27
            have hb78 := hb7.trans (hb8.mono hb7.size)
            have hc8 := (hb78.block B6 (lt_of_heap HC6.out)).trans HC6.out
            have t0 := cell_of_heap hx8 0
            have s0 := cell_of_heap hc8 0
            have sf := frozen_of_heap hc8
            have hnext : OutAt B6 w2.heap.size t (w8.setCell ⟨B6, 0, none⟩ (.slice a7 nt c7)) a7 c7 := by
              refine ⟨?_, ?_⟩
              · rw [heap_setCell_here _ hc8, HNT.out]; rfl
              · refine ((hrow.below hb8).base HCH6.out.size).keep (fun g hg _ => Below.heap_setCell _ _ _ _ (by simp; have := HZ6.out.2.1; omega))
            have hch8 : Ch [B6] w2 (w8.setCell ⟨B6, 0, none⟩ (.slice a7 nt c7)) := (HCH6.out.trans (Ch.of_below hb78 []) (by simp)).setCell (p := ⟨B6, 0, none⟩) (.inl (by simp)) _
            have HNX := Lib.hid hnext; have HCX := Lib.hid hch8
            clear hrow hb7 hb8 hx8 hz7 hz8 hb78 hc8 hnext hch8 f0 f1 q0
            go_wp2_with fail
            go_roundw
            case rel => exact ⟨k + 1, t, a7, c7, by go_num, hlt, HAT, HNX, HGT, HCX⟩
            case measure => simp [intOf]; omega
          · have hxf : (x != 0) = true := by simpa using hx0
            have hxg : (x == 0) = false := beq_eq_false_iff_ne.2 hx0
            rw [if_neg hx0] at hat
            have HAT := Lib.hid hat
            clear hat hmt
            go_wp2_with fail
            refine HM.out.mono ?_
            rintro e w7 ⟨a7, c7, rfl, hrow, hb7⟩
            obtain ⟨w8, hw8, hb8, hx8, hz7, hz8⟩ := new_cell w7 (.slice a7 nt c7) 27
            have hb78 := hb7.trans (hb8.mono hb7.size)
            have HB8 := Lib.hid (HB6.out.trans (hb78.mono HB6.out.size))
            have hbq := HKEEP.out _ HB8.out
            have b0 := cell_of_heap hbq 0
            have bf := frozen_of_heap hbq
            clear hrow hb7 hb8 hx8 hz7 hz8 hb78 hbq f0 f1 q0
            go_wp2_with fail
            refine bodyPost_ret (v := .tuple #[.agg #[.slice none 0 0], .int .i64 x]) (by simp [results, Tryd.results11, go_sem, b0]) rfl ?_
            exact HOUT.out _ _ HAT.out HB8.out _
        · have hE : X = (0, out) := by
            rw [hma.out, List.drop_eq_nil_of_le (by rw [← HN.out]; omega)]; rfl
          have q0 := cell_of_heap hoc 0
          have hbq := HKEEP.out _ HBR.out
          have b0 := cell_of_heap hbq 0
          have bf := frozen_of_heap hbq
          have hfin : ∀ v, MakeTo w X (.returned (.tuple #[.agg #[.slice ao no co], .int .i64 0])) (wr.setCell ⟨b, 0, none⟩ v) := by
            intro v
            rw [hE, HNO.out]
            obtain ⟨z1, z2, z3⟩ := HZ6.out
            have z4 := HWB.out
            refine ⟨ao, co, rfl, (hoa.out.row.keep (fun g hg _ => Below.heap_setCell _ _ _ _ (by simp; omega))).base (by omega), ?_⟩
            exact (HB1.out.trans (HBR.out.mono HB1.out.size)).setCell (p := ⟨b, 0, none⟩) (by show w.heap.size ≤ b; omega) v
          have HFIN := Lib.hid hfin
          clear hbq hfin hE hoc hno
          go_wp2_with fail
          refine bodyPost_ret (v := .tuple #[.agg #[.slice ao no co], .int .i64 0]) (by simp [results, Tryd.results11, go_sem, b0]) rfl ?_
          exact HFIN.out _
end Go.Proofs.YtknokfhmkhdieaaDoor
