/- DERIVED. view.Build, walked. -/
import Derived.Test.YtknokfhmkhdieaaDoorViewMath
namespace Go.Proofs.YtknokfhmkhdieaaDoor
open Go.RowKit
set_option linter.unusedVariables false

/-- The tree so far, in its variable. -/
structure OutAt (B base : Nat) (out : List Pr) (W : World) (a : Option Addr) (c : Nat) : Prop where
  cell : W.heap[B]? = some (.cells #[.slice a out.length c] 27 (0, 0))
  row : RowAt W base a c out
structure MtOk (ms : List Mt) : Prop where
  dir : ∀ m ∈ ms, m.1.length ≤ 400000
  len : ∀ m ∈ ms, m.2.length ≤ 1000000
  file : ∀ m ∈ ms, ∀ p ∈ m.2, p.1.length ≤ 400000
set_option maxRecDepth 100000 in
set_option maxHeartbeats 16000000 in
theorem build_any (w : World) (a : Option Addr) (c : Nat) (ms : List Mt) (hr : RdMt w a ms) (hcap : ms.length ≤ c) (hcm : c ≤ maxLen) (hn : ms.length ≤ 1000000) (hok : MtOk ms) :
    Calls Tryd.prog 10 #[.slice a ms.length c] w (MakeTo w (buildT ms)) := by
  obtain ⟨w1, hw1, hb1, hx1, hz1, hz2⟩ := new_cell w (.slice none 0 0) 27
  obtain ⟨b, hbe⟩ : ∃ b, w.heap.size = b := ⟨_, rfl⟩
  rw [hbe] at hx1 hz1 hz2
  obtain ⟨n, hnn⟩ : ∃ n, n = ms.length := ⟨_, rfl⟩
  obtain ⟨X, hX⟩ : ∃ X, X = buildT ms := ⟨_, rfl⟩
  have hkeep : ∀ W, Below w1.heap.size w1 W → W.heap[b]? = some (.cells #[.slice none 0 0] 27 (0, 0)) := fun W h => (h.block b (by omega)).trans hx1
  have hout : ∀ x W, X = (x, []) → Below w1.heap.size w1 W → ∀ v, MakeTo w X (.returned (.tuple #[.agg #[.slice none 0 0], .int .i64 x])) (W.setCell ⟨b, 0, none⟩ v) := fun x W hx hW v => by
    rw [hx]
    exact makeTo_err w _ x ((hb1.trans (hW.mono hb1.size)).setCell (p := ⟨b, 0, none⟩) (by show w.heap.size ≤ b; omega) v)
  rw [← hnn, ← hX]
  rw [← hnn] at hn hcap
  have HR := Lib.hid (hr.below hb1); have HN := Lib.hid hnn; have HX := Lib.hid hX; have HKEEP := Lib.hid hkeep; have HOUT := Lib.hid hout; have HOK := Lib.hid hok; have HB1 := Lib.hid hb1; have HZ := Lib.hid (And.intro hz1 hz2); have HWB := Lib.hid hbe
  clear hr hnn hX hkeep hout hok hb1 hx1 hz1 hz2
  unfold maxLen at hcm
  go_enter Tryd.func10, Tryd.ntmps10
  go_wp2_with fail
  go_loopw [13] (fun x wr => ∃ k : Nat, x = .int .i64 k ∧ k ≤ n ∧ Hid (checkT [] ms = checkT (ms.take k) (ms.drop k)) ∧ Hid (Below w1.heap.size w1 wr)) (fun x _ => n - (intOf x).toNat)
  case atStart => exact ⟨0, rfl, Nat.zero_le _, rfl, Below.refl _ _⟩
  case round =>
    obtain ⟨k, rfl, hkn, hck, hbw⟩ := hrel
    by_cases hlt : k < n
    · obtain ⟨m, hm⟩ : ∃ m, ms[k]? = some m := ⟨_, List.getElem?_eq_getElem (by rw [← HN.out]; exact hlt)⟩
      obtain ⟨rb, o, rfl, _, hcs⟩ := HR.out.below hbw.out (fun e => by rw [e] at hm; cases hm)
      obtain ⟨p0, av, cv, p1, _, _⟩ := hcs k m hm
      have hml := HOK.out.dir m (List.mem_of_getElem? hm)
      have hG := fun W => good_any ⟨m.1.toArray⟩ W (by rw [str_size]; omega)
      dsimp only at hG
      obtain ⟨S1, hS1⟩ : ∃ S : ByteArray, strV m.1 = .string S := ⟨_, rfl⟩
      obtain ⟨nv, hnv⟩ : ∃ nv, nv = m.2.length := ⟨_, rfl⟩
      rw [show Value.string ⟨m.1.toArray⟩ = .string S1 from hS1] at hG
      rw [hS1] at p0; rw [← hnv] at p1
      obtain ⟨w2, hw2, hb2, hfx, _, _⟩ := new_two wr (.string S1) (.slice av nv cv) 36
      have f0 := cell_of_heap hfx 0
      have HFX := Lib.hid hfx
      have HB2 := Lib.hid (hbw.out.trans (hb2.mono hbw.out.size))
      have hat := hck.out.trans (checkT_at hm)
      have HM := Lib.hid hm; have HS1 := Lib.hid hS1
      clear hcs hfx hm hb2 hnv hS1
      cases hgood : goodB m.1
      · rw [hgood, if_pos rfl] at hat
        rw [hgood] at hG
        have HE := Lib.hid (show X = (10, []) by rw [HX.out]; unfold buildT; rw [hat])
        have HG := Lib.hid hG
        clear hG hat hgood
        go_wp2_with fail
        refine (HG.out _).mono ?_
        rintro e w3 ⟨rfl, h3⟩
        have HB3 := Lib.hid (HB2.out.trans (h3.mono HB2.out.size))
        have hbq := HKEEP.out _ HB3.out
        have b0 := cell_of_heap hbq 0
        have bf := frozen_of_heap hbq
        clear h3 hbq f0
        go_wp2_with fail
        refine bodyPost_ret (v := .tuple #[.agg #[.slice none 0 0], .int .i64 10]) (by simp [results, Tryd.results10, go_sem, b0]) rfl ?_
        exact HOUT.out _ _ HE.out HB3.out _
      · rw [hgood, if_neg (by simp)] at hat
        rw [hgood] at hG
        have HG := Lib.hid hG
        have HC := Lib.hid (fun W (h : Below w2.heap.size w2 W) => mcont_any _ c (ms.take k) m.1 wr.heap.size W ((HR.out.take k).below (HB2.out.trans (h.mono HB2.out.size))) (by rw [List.length_take]; omega) (by rw [HS1.out, cell_of_heap ((h.block _ (lt_of_heap HFX.out)).trans HFX.out)]; rfl) hml (fun x hx => HOK.out.dir x (List.mem_of_mem_take hx)))
        have hlen : (ms.take k).length = k := by rw [List.length_take, ← HN.out]; omega
        rw [hlen] at HC
        clear hG hlen
        have hkc : k ≤ c := by omega
        cases hany : (ms.take k).any (fun x => nearB x.1 m.1)
        · rw [hany, if_neg (by simp)] at hat
          rw [hany] at HC
          have HA := Lib.hid hat
          clear hat hany hgood
          go_wp2_with fail
          refine (HG.out _).mono ?_
          rintro e w3 ⟨rfl, h3⟩
          have HB3 := Lib.hid (HB2.out.trans (h3.mono HB2.out.size)); have H3 := Lib.hid h3
          clear h3 f0
          go_wp2_with fail
          refine (HC.out _ H3.out).mono ?_
          rintro e w4 ⟨rfl, h4⟩
          have HB4 := Lib.hid (HB3.out.trans (h4.mono HB3.out.size))
          clear h4
          go_wp2_with fail
          go_roundw
          case rel => exact ⟨k + 1, by go_num, hlt, HA, HB4⟩
          case measure => simp [intOf]; omega
        · rw [hany, if_pos rfl] at hat
          rw [hany] at HC
          have HE := Lib.hid (show X = (12, []) by rw [HX.out]; unfold buildT; rw [hat])
          clear hat hany hgood
          go_wp2_with fail
          refine (HG.out _).mono ?_
          rintro e w3 ⟨rfl, h3⟩
          have HB3 := Lib.hid (HB2.out.trans (h3.mono HB2.out.size)); have H3 := Lib.hid h3
          clear h3 f0
          go_wp2_with fail
          refine (HC.out _ H3.out).mono ?_
          rintro e w4 ⟨rfl, h4⟩
          have HB4 := Lib.hid (HB3.out.trans (h4.mono HB3.out.size))
          have hbq := HKEEP.out _ HB4.out
          have b0 := cell_of_heap hbq 0
          have bf := frozen_of_heap hbq
          clear h4 hbq
          go_wp2_with fail
          refine bodyPost_ret (v := .tuple #[.agg #[.slice none 0 0], .int .i64 12]) (by simp [results, Tryd.results10, go_sem, b0]) rfl ?_
          exact HOUT.out _ _ HE.out HB4.out _
    · have hX2 : X = mountAll [] ms := by
        rw [HX.out]
        unfold buildT
        rw [hck.out, List.drop_eq_nil_of_le (by rw [← HN.out]; omega)]
        rfl
      obtain ⟨w5, hw5⟩ : ∃ W, W = wr := ⟨_, rfl⟩
      rw [← hw5] at hbw ⊢
      obtain ⟨w2, hw2, hb2, hx2, hz3, hz4⟩ := new_cell w5 (.slice none 0 0) 27
      obtain ⟨B6, hbe6⟩ : ∃ b, w5.heap.size = b := ⟨_, rfl⟩
      rw [hbe6] at hx2 hz3 hz4
      have HB12 := Lib.hid (hbw.out.trans (hb2.mono hbw.out.size))
      have HZ6 := Lib.hid (show w1.heap.size ≤ B6 ∧ B6 < w2.heap.size ∧ b < w1.heap.size from by have := hbw.out.size; have := HZ.out.1; omega)
      have HX2 := Lib.hid hX2; have HX6 := Lib.hid hx2
      clear hX2 hw5 hbw hb2 hx2 hz3 hz4 hck
      go_wp2_with fail
      go_loopw [34] (fun x wr => ∃ (k : Nat) (out : List Pr) (ao : Option Addr) (co : Nat), x = .int .i64 k ∧ k ≤ n ∧ Hid (X = mountAll out (ms.drop k)) ∧ Hid (OutAt B6 w2.heap.size out wr ao co) ∧ Hid (goodT out = true) ∧ Hid (Ch [B6] w2 wr)) (fun x _ => n - (intOf x).toNat)
      case atStart => exact ⟨0, [], none, 0, rfl, Nat.zero_le _, HX2.out, ⟨HX6.out, .inl ⟨rfl, rfl, rfl⟩⟩, goodT_nil, Ch.refl _ _⟩
      case round =>
        obtain ⟨k, out, ao, co, rfl, hkn, hma, hoa, hgo, hch⟩ := hrel
        have HBR := Lib.hid (HB12.out.trans (below_of_ch hch.out (by intro x hx; rw [show x = B6 from by simpa using hx]; exact HZ6.out.1) HB12.out.size))
        obtain ⟨no, hno⟩ : ∃ no, no = out.length := ⟨_, rfl⟩
        have HNO := Lib.hid hno
        have hoc := hoa.out.cell
        rw [← hno] at hoc
        by_cases hlt : k < n
        · obtain ⟨m, hm⟩ : ∃ m, ms[k]? = some m := ⟨_, List.getElem?_eq_getElem (by rw [← HN.out]; exact hlt)⟩
          obtain ⟨rb, o, rfl, _, hcs⟩ := HR.out.below HBR.out (fun e => by rw [e] at hm; cases hm)
          obtain ⟨p0, av, cv, p1, hrf, hsl⟩ := hcs k m hm
          have hmem := List.mem_of_getElem? hm
          obtain ⟨S1, hS1⟩ : ∃ S : ByteArray, S = ⟨m.1.toArray⟩ := ⟨_, rfl⟩
          obtain ⟨nv, hnv⟩ : ∃ nv, nv = m.2.length := ⟨_, rfl⟩
          have hS1z : S1.size ≤ 400000 := by rw [hS1, str_size]; exact HOK.out.dir m hmem
          have hS1d : S1.data.toList = m.1 := by rw [hS1]
          unfold strV at p0
          rw [← hS1] at p0; rw [← hnv] at p1
          obtain ⟨w6, hw6, hb6, hfx, hz5, hz6⟩ := new_two wr (.string S1) (.slice av nv cv) 36
          have hM := mount_any w6 ao av co cv out m.2 S1 ((hoa.out.row.below hb6).rd) hoa.out.row.sl (hrf.below hb6) hsl (by have := (good_len hgo.out).1; omega) (HOK.out.len m hmem) (fun p hp => by have := (good_len hgo.out).2 p hp; omega) (fun p hp => HOK.out.file m hmem p hp) hS1z
          rw [hS1d, ← hno, ← hnv] at hM
          have hat := hma.out.trans (mountAll_at hm out)
          have f0 := cell_of_heap hfx 0
          have f1 := cell_of_heap hfx 1
          have hc6 := (hb6.block B6 (lt_of_heap hoc)).trans hoc
          have q0 := cell_of_heap hc6 0
          have HC6 := Lib.hid hc6
          have HB6 := Lib.hid (HBR.out.trans (hb6.mono HBR.out.size)); have HCH6 := Lib.hid (hch.out.trans (Ch.of_below hb6 []) (by simp))
          cases hmt : mountT out m.1 m.2 with
          | mk x t =>
          rw [hmt] at hM hat
          unfold MakeTo at hM
          dsimp only at hM hat
          obtain ⟨nt, hnt⟩ : ∃ nt, nt = t.length := ⟨_, rfl⟩
          rw [← hnt] at hM
          have HM := Lib.hid hM; have HNT := Lib.hid hnt
          clear hcs hm hmem hS1 hnv hS1z hS1d hrf hsl hM hfx hc6 hb6 hz5 hz6 hnt hoc hno
          by_cases hx0 : x = 0
          · subst hx0
            rw [if_pos rfl] at hat
            have HAT := Lib.hid hat; have HGT := Lib.hid (mountT_good hmt)
            clear hat hmt
            go_wp2_with fail
            refine HM.out.mono ?_
            rintro e w7 ⟨a7, c7, rfl, hrow, hb7⟩
            obtain ⟨w8, hw8, hb8, hx8, hz7, hz8⟩ := new_cell w7 (.slice a7 nt c7) 27
            have hb78 := hb7.trans (hb8.mono hb7.size)
            have hc8 := (hb78.block B6 (lt_of_heap HC6.out)).trans HC6.out
            have t0 := cell_of_heap hx8 0
            have s0 := cell_of_heap hc8 0
            have sf := frozen_of_heap hc8
            have hnext : OutAt B6 w2.heap.size t (w8.setCell ⟨B6, 0, none⟩ (.slice a7 nt c7)) a7 c7 := by
              refine ⟨?_, ?_⟩
              · rw [heap_setCell_here _ hc8, HNT.out]; rfl
              · refine ((hrow.below hb8).base HCH6.out.size).keep (fun g hg _ => Below.heap_setCell _ _ _ _ (by simp; have := HZ6.out.2.1; omega))
            have hch8 : Ch [B6] w2 (w8.setCell ⟨B6, 0, none⟩ (.slice a7 nt c7)) := (HCH6.out.trans (Ch.of_below hb78 []) (by simp)).setCell (p := ⟨B6, 0, none⟩) (.inl (by simp)) _
            have HNX := Lib.hid hnext; have HCX := Lib.hid hch8
            clear hrow hb7 hb8 hx8 hz7 hz8 hb78 hc8 hnext hch8 f0 f1 q0
            go_wp2_with fail
            go_roundw
            case rel => exact ⟨k + 1, t, a7, c7, by go_num, hlt, HAT, HNX, HGT, HCX⟩
            case measure => simp [intOf]; omega
          · have hxf : (x != 0) = true := by simpa using hx0
            have hxg : (x == 0) = false := beq_eq_false_iff_ne.2 hx0
            rw [if_neg hx0] at hat
            have HAT := Lib.hid hat
            clear hat hmt
            go_wp2_with fail
            refine HM.out.mono ?_
            rintro e w7 ⟨a7, c7, rfl, hrow, hb7⟩
            obtain ⟨w8, hw8, hb8, hx8, hz7, hz8⟩ := new_cell w7 (.slice a7 nt c7) 27
            have hb78 := hb7.trans (hb8.mono hb7.size)
            have HB8 := Lib.hid (HB6.out.trans (hb78.mono HB6.out.size))
            have hbq := HKEEP.out _ HB8.out
            have b0 := cell_of_heap hbq 0
            have bf := frozen_of_heap hbq
            clear hrow hb7 hb8 hx8 hz7 hz8 hb78 hbq f0 f1 q0
            go_wp2_with fail
            refine bodyPost_ret (v := .tuple #[.agg #[.slice none 0 0], .int .i64 x]) (by simp [results, Tryd.results10, go_sem, b0]) rfl ?_
            exact HOUT.out _ _ HAT.out HB8.out _
        · have hE : X = (0, out) := by
            rw [hma.out, List.drop_eq_nil_of_le (by rw [← HN.out]; omega)]; rfl
          have q0 := cell_of_heap hoc 0
          have hbq := HKEEP.out _ HBR.out
          have b0 := cell_of_heap hbq 0
          have bf := frozen_of_heap hbq
          have hfin : ∀ v, MakeTo w X (.returned (.tuple #[.agg #[.slice ao no co], .int .i64 0])) (wr.setCell ⟨b, 0, none⟩ v) := by
            intro v
            rw [hE, HNO.out]
            obtain ⟨z1, z2, z3⟩ := HZ6.out
            have z4 := HWB.out
            refine ⟨ao, co, rfl, (hoa.out.row.keep (fun g hg _ => Below.heap_setCell _ _ _ _ (by simp; omega))).base (by omega), ?_⟩
            exact (HB1.out.trans (HBR.out.mono HB1.out.size)).setCell (p := ⟨b, 0, none⟩) (by show w.heap.size ≤ b; omega) v
          have HFIN := Lib.hid hfin
          clear hbq hfin hE hoc hno
          go_wp2_with fail
          refine bodyPost_ret (v := .tuple #[.agg #[.slice ao no co], .int .i64 0]) (by simp [results, Tryd.results10, go_sem, b0]) rfl ?_
          exact HFIN.out _
end Go.Proofs.YtknokfhmkhdieaaDoor
