/- DERIVED. tree.Make's walk. -/
import Derived.Test.YtjcimajkjnjdpabGreatDoorTreeMake
namespace Go.Proofs.YtjcimajkjnjdpabGreatDoor
open Go.RowKit
set_option linter.unusedVariables false

/-- What Make answers. -/
def MakeTo (w : World) (r : Int × List Pr) (e : Ending) (w' : World) : Prop :=
  ∃ a c, e = .returned (.tuple #[.agg #[.slice a r.2.length c], .int .i64 r.1]) ∧ RowAt w' w.heap.size a c r.2 ∧ Below w.heap.size w w'
theorem makeTo_err (w w' : World) (x : Int) (h : Below w.heap.size w w') : MakeTo w (x, []) (.returned (.tuple #[.agg #[.slice none 0 0], .int .i64 x])) w' := ⟨none, 0, rfl, .inl ⟨rfl, rfl, rfl⟩, h⟩
theorem new_cell (w : World) (v : Value) (t : TypeId) : ∃ w1, w.alloc (.cells #[v] t) = w1 ∧ Below w.heap.size w w1 ∧ w1.heap[w.heap.size]? = some (.cells #[v] t (0, 0)) ∧ w.heap.size + 1 ≤ w1.heap.size ∧ w1.heap.size ≤ w.heap.size + 1 :=
  ⟨_, rfl, (Below.refl _ w).alloc (Nat.le_refl _) _, heap_alloc_new w _, by simp, by simp⟩
theorem new_two (w : World) (u v : Value) (t : TypeId) : ∃ w1, w.alloc (.cells #[u, v] t) = w1 ∧ Below w.heap.size w w1 ∧ w1.heap[w.heap.size]? = some (.cells #[u, v] t (0, 0)) ∧ w.heap.size + 1 ≤ w1.heap.size ∧ w1.heap.size ≤ w.heap.size + 1 :=
  ⟨_, rfl, (Below.refl _ w).alloc (Nat.le_refl _) _, heap_alloc_new w _, by simp, by simp⟩
set_option maxRecDepth 100000 in
set_option maxHeartbeats 8000000 in
theorem make_any (w : World) (a : Option Addr) (c : Nat) (ps : List Pr) (hr : RdFl w a ps) (hs : Sl a ps.length c) (hl : ps.length ≤ 1000000) (hsz : ∀ p ∈ ps, p.1.length ≤ 400000) :
    Calls Tryz.prog 19 #[.slice a ps.length c] w (MakeTo w (makeT ps)) := by
  obtain ⟨w1, hw1, hb1, hbx, hz1, hz2⟩ := new_cell w (.slice none 0 0) 24
  obtain ⟨b, hbe⟩ : ∃ b, w.heap.size = b := ⟨_, rfl⟩
  rw [hbe] at hbx hz1 hz2
  have b0 := cell_of_heap hbx 0
  have bf := frozen_of_heap hbx
  obtain ⟨n, hnn⟩ : ∃ n, n = ps.length := ⟨_, rfl⟩
  have hout : ∀ x W, makeT ps = (x, []) → Below b w1 W → ∀ v, MakeTo w (makeT ps) (.returned (.tuple #[.agg #[.slice none 0 0], .int .i64 x])) (W.setCell ⟨b, 0, none⟩ v) := by
    intro x W hx hW v
    rw [hx]
    exact makeTo_err w _ x (hb1.trans (by rw [hbe]; exact hW.setCell (p := ⟨b, 0, none⟩) (Nat.le_refl _) v))
  by_cases hbig : 32 < n
  · have hfin : ∀ v, MakeTo w (makeT ps) (.returned (.tuple #[.agg #[.slice none 0 0], .int .i64 13])) (w1.setCell ⟨b, 0, none⟩ v) := hout _ _ (makeT_many (by rw [← hnn]; exact hbig)) (Below.refl _ _)
    rw [← hnn]
    have HFIN := Lib.hid hfin
    clear hfin hout hnn hl hsz hb1 hbx hz1 hz2 hr hs
    go_enter Tryz.func19, Tryz.ntmps19
    go_wp2_with fail
    refine bodyPost_ret (v := .tuple #[.agg #[.slice none 0 0], .int .i64 13]) (by simp [results, Tryz.results19, go_sem, b0]) rfl ?_
    exact HFIN.out _
  · rw [← hnn]
    have hn32 : n ≤ 32 := by omega
    have hkeep : ∀ W, Below w1.heap.size w1 W → W.heap[b]? = some (.cells #[.slice none 0 0] 24 (0, 0)) := fun W h => (h.block b (by omega)).trans hbx
    have hout2 : ∀ x W, makeT ps = (x, []) → Below w1.heap.size w1 W → ∀ v, MakeTo w (makeT ps) (.returned (.tuple #[.agg #[.slice none 0 0], .int .i64 x])) (W.setCell ⟨b, 0, none⟩ v) := fun x W hx hW => hout x W hx (hW.mono (by omega))
    have HR := Lib.hid (hr.below hb1); have HS := Lib.hid hs; have HN := Lib.hid hnn; have HOUT := Lib.hid hout2; have HSZ := Lib.hid hsz; have HB1 := Lib.hid hb1; have HBX := Lib.hid hbx; have HZ := Lib.hid (And.intro hz1 hz2)
    have HKEEP := Lib.hid hkeep
    clear hr hs hnn hout hout2 hsz hb1 hbx hz1 hz2 hbig hl hkeep b0 bf
    go_enter Tryz.func19, Tryz.ntmps19
    go_wp2_with fail
    go_loopw [16] (fun x wr => ∃ k : Nat, x = .int .i64 k ∧ k ≤ n ∧ Hid (firstBad (ps.take k) = none) ∧ Hid (Below w1.heap.size w1 wr)) (fun x _ => n - (intOf x).toNat)
    case atStart => exact ⟨0, rfl, Nat.zero_le _, rfl, Below.refl _ _⟩
    case round =>
      obtain ⟨k, rfl, hkn, hfb, hbw⟩ := hrel
      by_cases hlt : k < n
      · obtain ⟨p, hp⟩ : ∃ p, ps[k]? = some p := ⟨_, List.getElem?_eq_getElem (by rw [← HN.out]; exact hlt)⟩
        obtain ⟨rb, o, rfl, _, hcs⟩ := HR.out.below hbw.out (fun e => by rw [e] at hp; cases hp)
        obtain ⟨p0, p1⟩ := hcs k p hp
        have hpl := HSZ.out p (List.mem_of_getElem? hp)
        have hG := fun W => good_any ⟨p.1.toArray⟩ W (by rw [str_size]; omega)
        dsimp only at hG
        obtain ⟨S1, hS1⟩ : ∃ S : ByteArray, S = ⟨p.1.toArray⟩ := ⟨_, rfl⟩
        obtain ⟨S2, hS2⟩ : ∃ S : ByteArray, S = ⟨p.2.toArray⟩ := ⟨_, rfl⟩
        have hz : S2.size = p.2.length := by rw [hS2, str_size]
        unfold strV at p0 p1
        rw [← hS1] at hG p0; rw [← hS2] at p1
        obtain ⟨w2, hw2, hb2, hfx, _, _⟩ := new_two wr (.string S1) (.string S2) 35
        have f0 := cell_of_heap hfx 0
        have HF2 := Lib.hid hfx
        have HB2 := Lib.hid (hbw.out.trans (hb2.mono hbw.out.size))
        have hat := firstBad_at hfb.out hp
        have hnx := fun h1 h2 => firstBad_take hfb.out hp h1 h2
        clear hcs hfx
        cases hgood : goodB p.1
        · rw [hgood] at hat hG
          have HE := Lib.hid (makeT_bad (by rw [← HN.out]; exact hn32) (hat.trans (if_pos rfl)))
          have HG := Lib.hid hG
          clear hG hat hnx hp hS1 hS2 hz hb2 hgood
          go_wp2_with fail
          refine (HG.out _).mono ?_
          rintro e w3 ⟨rfl, h3⟩
          have HB3 := Lib.hid (HB2.out.trans (h3.mono HB2.out.size))
          have hbq := HKEEP.out _ HB3.out
          have b0 := cell_of_heap hbq 0
          have bf := frozen_of_heap hbq
          clear h3 hbq f0
          go_wp2_with fail
          refine bodyPost_ret (v := .tuple #[.agg #[.slice none 0 0], .int .i64 10]) (by simp [results, Tryz.results19, go_sem, b0]) rfl ?_
          exact HOUT.out _ _ HE.out HB3.out _
        · rw [hgood, if_neg (by simp)] at hat
          rw [hgood] at hG
          by_cases hbd : 2048 < S2.size
          · have HE := Lib.hid (makeT_bad (by rw [← HN.out]; exact hn32) (hat.trans (if_pos (by omega))))
            have HG := Lib.hid hG
            clear hG hat hnx hp hS1 hS2 hz hb2 hgood
            go_wp2_with fail
            refine (HG.out _).mono ?_
            rintro e w3 ⟨rfl, h3⟩
            have HB3 := Lib.hid (HB2.out.trans (h3.mono HB2.out.size))
            have hbq := HKEEP.out _ HB3.out
            have hfq := (h3.block _ (lt_of_heap HF2.out)).trans HF2.out
            have f1 := cell_of_heap hfq 1
            have b0 := cell_of_heap hbq 0
            have bf := frozen_of_heap hbq
            clear h3 hbq f0 hfq
            go_wp2_with fail
            refine bodyPost_ret (v := .tuple #[.agg #[.slice none 0 0], .int .i64 3]) (by simp [results, Tryz.results19, go_sem, b0]) rfl ?_
            exact HOUT.out _ _ HE.out HB3.out _
          · have HX := Lib.hid (hnx hgood (by omega))
            have HG := Lib.hid hG
            clear hG hat hnx hp hS1 hS2 hz hb2 hgood
            go_wp2_with fail
            refine (HG.out _).mono ?_
            rintro e w3 ⟨rfl, h3⟩
            have HB3 := Lib.hid (HB2.out.trans (h3.mono HB2.out.size))
            have hfq := (h3.block _ (lt_of_heap HF2.out)).trans HF2.out
            have f1 := cell_of_heap hfq 1
            clear h3 f0 hfq
            go_wp2_with fail
            go_roundw
            case rel => exact ⟨k + 1, by go_num, hlt, HX, HB3⟩
            case measure => simp [intOf]; omega
      · have hkn2 : k = n := by omega
        have hfb2 : firstBad ps = none := by
          have := hfb.out
          rwa [List.take_of_length_le (by rw [← HN.out]; omega)] at this
        have HNB := Lib.hid hfb2
        have hcl := clone_any wr a c ps (HR.out.below hbw.out) HS.out (by rw [← HN.out]; omega)
        rw [← HN.out] at hcl
        have HCL := Lib.hid hcl
        clear hfb2 hcl hfb
        go_wp2_with fail
        refine HCL.out.mono ?_
        rintro e w4 ⟨a1, c1, rfl, h1, h2, h3⟩
        have hro := owns_rowAt h1
        have hso := sort_row wr.heap.size a1 c1 n ps w4 hro HN.out h2.size (by rw [← HN.out]; omega)
        rw [← HN.out]
        have HSO := Lib.hid hso
        have HB4 := Lib.hid h2
        clear h1 h2 h3 hro hso
        go_wp2_with fail
        refine HSO.out.mono ?_
        rintro e w5 ⟨rfl, qs, hrow, hperm, hsrt, hb5⟩
        have HROW := Lib.hid hrow; have HPERM := Lib.hid hperm; have HSRT := Lib.hid hsrt
        have HB5 := Lib.hid (hbw.out.trans ((HB4.out.trans hb5).mono hbw.out.size))
        have HWR := Lib.hid (show w1.heap.size ≤ wr.heap.size from hbw.out.size)
        have HNQ := Lib.hid (show n = qs.length from by rw [hperm.length_eq]; exact HN.out)
        clear hrow hperm hsrt hb5 HSO HCL HB4
        go_wp2_with fail
        go_loopw [7] (fun x wv => ∃ i : Nat, x = .int .i64 i ∧ 1 ≤ i ∧ i ≤ n + 1 ∧ Hid (∀ j p q, j + 1 < i → qs[j]? = some p → qs[j + 1]? = some q → p.1 ≠ q.1) ∧ Hid (Below w5.heap.size w5 wv)) (fun x _ => n - (intOf x).toNat)
        case atStart => exact ⟨1, rfl, Nat.le_refl _, by omega, fun j p q h => by omega, Below.refl _ _⟩
        case round =>
          obtain ⟨i, rfl, hi1, hin, hun, hbv⟩ := hrel
          have HBV := Lib.hid (HB5.out.trans (hbv.out.mono HB5.out.size))
          by_cases hlt2 : i < n
          · obtain ⟨p, hp⟩ : ∃ p, qs[i]? = some p := ⟨_, List.getElem?_eq_getElem (by rw [← HNQ.out]; exact hlt2)⟩
            obtain ⟨q, hq⟩ : ∃ q, qs[i - 1]? = some q := ⟨_, List.getElem?_eq_getElem (by rw [← HNQ.out]; omega)⟩
            rcases HROW.out.below hbv.out with ⟨_, e, _⟩ | ⟨g, rfl, hgb, hfl⟩
            · rw [e] at hp; cases hp
            obtain ⟨ι, F, hF0, hFB, hFG⟩ := below_fam wr
            have hcF : ∀ a v, wr.cell? a = some v → ∀ n, (F n).cell? a = some v := fun a v h n => below_keeps (hFB n) _ _ h
            have p0 := hcF _ _ (hfl.cell hp).1
            have q0 := hcF _ _ (hfl.cell hq).1
            obtain ⟨S1, hS1⟩ : ∃ S : ByteArray, S = ⟨p.1.toArray⟩ := ⟨_, rfl⟩
            obtain ⟨S2, hS2⟩ : ∃ S : ByteArray, S = ⟨q.1.toArray⟩ := ⟨_, rfl⟩
            have heq : (S1.toList == S2.toList) = decide (p.1 = q.1) := by
              rw [Lib.toList_data, Lib.toList_data, hS1, hS2, Bool.eq_iff_iff, beq_iff_eq, decide_eq_true_iff]
            unfold strV at p0 q0
            rw [← hS1] at p0; rw [← hS2] at q0
            have HF0 := Lib.hid hF0; have HFB := Lib.hid hFB; have HP := Lib.hid hp; have HQ := Lib.hid hq
            clear hF0 hFB hFG hcF hp hq hS1 hS2 hfl
            by_cases hsame : p.1 = q.1
            · have heq2 : (S1.toList == S2.toList) = true := by rw [heq]; simpa using hsame
              have HE := Lib.hid (makeT_twice (by rw [← HN.out]; exact hn32) HNB.out (show twiceB ps = true by
                rw [← twice_perm HPERM.out]
                cases ht : twiceB qs
                · exfalso
                  have h1 := (List.pairwise_iff_getElem.1 (List.pairwise_map.1 (twice_false.1 ht)))
                  obtain ⟨l1, e1⟩ := List.getElem?_eq_some_iff.1 HP.out
                  obtain ⟨l2, e2⟩ := List.getElem?_eq_some_iff.1 HQ.out
                  have := h1 (i - 1) i l2 l1 (by omega)
                  rw [e1, e2] at this
                  exact this hsame.symm
                · rfl))
              go_wp2_with fail
              obtain ⟨n0, hn0⟩ := HF0.out 1
              have hne : Nonempty ι := ⟨n0⟩
              refine wp_region_fam F n0 hn0 (by kernel_rfl) (by kernel_rfl) ?_
              repeat (go_big_quiet_step (fail))
              refine wpQuiet_nil ?_
              intro _ hw'
              obtain ⟨m0, hw''⟩ := hw'
              subst hw''
              have hB1 := HFB.out m0
              clear p0 q0
              obtain ⟨W1, hW1⟩ : ∃ W1, W1 = F m0 := ⟨_, rfl⟩
              rw [← hW1] at hB1 ⊢
              have HBW := Lib.hid (HBV.out.trans (hB1.mono HBV.out.size))
              have HBX := Lib.hid (hbv.out.trans (hB1.mono hbv.out.size))
              clear hW1 HFB HF0 hB1
              have hbq := HKEEP.out _ HBW.out
              have b0 := cell_of_heap hbq 0
              have bf := frozen_of_heap hbq
              clear hbq
              go_wp2_with fail
              refine bodyPost_ret (v := .tuple #[.agg #[.slice none 0 0], .int .i64 11]) (by simp [results, Tryz.results19, go_sem, b0]) rfl ?_
              exact HOUT.out _ _ HE.out HBW.out _
            · have heq2 : (S1.toList == S2.toList) = false := by rw [heq]; simpa using hsame
              have HU := Lib.hid (show ∀ j p q, j + 1 < i + 1 → qs[j]? = some p → qs[j + 1]? = some q → p.1 ≠ q.1 from fun j x y hj hx hy => by
                by_cases e : j + 1 < i
                · exact hun.out j x y e hx hy
                · obtain rfl : i = j + 1 := by omega
                  rw [Nat.add_sub_cancel, hx] at HQ
                  rw [hy] at HP
                  obtain rfl := Option.some.inj HP.out
                  obtain rfl := Option.some.inj HQ.out
                  exact fun e => hsame e.symm)
              go_wp2_with fail
              obtain ⟨n0, hn0⟩ := HF0.out 1
              have hne : Nonempty ι := ⟨n0⟩
              refine wp_region_fam F n0 hn0 (by kernel_rfl) (by kernel_rfl) ?_
              repeat (go_big_quiet_step (fail))
              refine wpQuiet_nil ?_
              intro _ hw'
              obtain ⟨m0, hw''⟩ := hw'
              subst hw''
              have hB1 := HFB.out m0
              clear p0 q0
              obtain ⟨W1, hW1⟩ : ∃ W1, W1 = F m0 := ⟨_, rfl⟩
              rw [← hW1] at hB1 ⊢
              have HBW := Lib.hid (HBV.out.trans (hB1.mono HBV.out.size))
              have HBX := Lib.hid (hbv.out.trans (hB1.mono hbv.out.size))
              clear hW1 HFB HF0 hB1
              go_wp2_with fail
              go_roundw
              case rel => exact ⟨i + 1, by go_num, by omega, by omega, HU, HBX⟩
              case measure => simp [intOf]; omega
          · have hsq : Srt qs := srt_of_next HSRT.out (fun j p q hp hq => hun.out j p q (by have := (List.getElem?_eq_some_iff.1 hq).1; have := HNQ.out; omega) hp hq)
            have hmem : ∀ q, q ∈ qs ↔ q ∈ ps := fun q => HPERM.out.mem_iff
            have hnt : twiceB ps = false := by rw [← twice_perm HPERM.out]; exact twice_false.2 hsq.nodup
            have hso : sortT ps = qs := sortT_eq (twice_false.1 hnt) hsq hmem
            have hgd : ∀ p ∈ qs, goodB p.1 = true ∧ p.2.length ≤ 2048 := fun p hp => firstBad_none.1 HNB.out p ((hmem p).1 hp)
            have hok : clashB qs = false → makeT ps = (0, qs) := fun h => by rw [makeT_ok (by rw [← HN.out]; exact hn32) HNB.out hnt (by rw [← clash_mem hmem]; exact h), hso]
            have hno : clashB qs = true → makeT ps = (12, []) := fun h => makeT_clash (by rw [← HN.out]; exact hn32) HNB.out hnt (by rw [← clash_mem hmem]; exact h)
            have HOK := Lib.hid hok; have HNO := Lib.hid hno
            have hps : ∀ p ∈ qs, p.1.length ≤ 1000 := fun p hp => by
              have := (hgd p hp).1
              unfold goodB at this
              simp only [Bool.and_eq_true, decide_eq_true_iff] at this
              omega
            have HPS := Lib.hid hps
            obtain ⟨wb, hwb⟩ : ∃ W, W = wr := ⟨_, rfl⟩
            rw [← hwb] at hbv HBV ⊢
            have HBU := hbv; have HBZ := HBV
            clear hsq hmem hnt hso hgd hok hno hps hun hwb hbv HBV
            go_wp2_with fail
            go_loopw [58] (fun x wv => ∃ i : Nat, x = .int .i64 i ∧ i ≤ n ∧ Hid ((qs.take i).any (fun f => qs.any fun g => aheadB f.1 g.1) = false) ∧ Hid (Below wb.heap.size wb wv)) (fun x _ => n - (intOf x).toNat)
            case atStart => exact ⟨0, rfl, Nat.zero_le _, rfl, Below.refl _ _⟩
            case round =>
              obtain ⟨k, rfl, hkn, han, hbv⟩ := hrel
              have HBV := Lib.hid (HBZ.out.trans (hbv.out.mono HBZ.out.size))
              have HBQ := Lib.hid (HBU.out.trans (hbv.out.mono HBU.out.size))
              by_cases hlt3 : k < n
              · obtain ⟨p, hp⟩ : ∃ p, qs[k]? = some p := ⟨_, List.getElem?_eq_getElem (by rw [← HNQ.out]; exact hlt3)⟩
                rcases HROW.out.below HBQ.out with ⟨_, e, _⟩ | ⟨g, rfl, hgb, hfl⟩
                · rw [e] at hp; cases hp
                obtain ⟨p0, p1⟩ := hfl.cell hp
                obtain ⟨S1, hS1⟩ : ∃ S : ByteArray, strV p.1 = .string S := ⟨_, rfl⟩
                obtain ⟨S2, hS2⟩ : ∃ S : ByteArray, strV p.2 = .string S := ⟨_, rfl⟩
                rw [hS1] at p0; rw [hS2] at p1
                obtain ⟨w6, hw6, hb6, hfx, _, _⟩ := new_two wr (.string S1) (.string S2) 35
                have f0 := cell_of_heap hfx 0
                have hrd := ((HROW.out.below HBQ.out).below hb6).rd
                have hC := fcont_any _ c1 qs p.1 wr.heap.size w6 hrd (by rw [← HNQ.out]; omega) (by rw [hS1]; exact f0) (by have := HPS.out p (List.mem_of_getElem? hp); omega) (fun q hq => by have := HPS.out q hq; omega)
                rw [← HNQ.out] at hC
                have HB6 := Lib.hid (HBV.out.trans (hb6.mono HBV.out.size))
                have HB7 := Lib.hid (hbv.out.trans (hb6.mono hbv.out.size))
                have HPQ := Lib.hid hp
                clear hp hfl f0 hfx hrd hS1 hS2 hb6
                cases hany : qs.any (fun g => aheadB p.1 g.1)
                · rw [hany] at hC
                  have HC := Lib.hid hC; have HAN := Lib.hid hany
                  clear hC hany
                  go_wp2_with fail
                  refine HC.out.mono ?_
                  rintro e w7 ⟨rfl, h7⟩
                  have HB8 := Lib.hid (HB7.out.trans (h7.mono HB7.out.size))
                  have HNX := Lib.hid (any_next han.out HPQ.out HAN.out)
                  clear h7
                  go_wp2_with fail
                  go_roundw
                  case rel => exact ⟨k + 1, by go_num, hlt3, HNX, HB8⟩
                  case measure => simp [intOf]; omega
                · rw [hany] at hC
                  have HC := Lib.hid hC
                  have HE := Lib.hid (HNO.out (any_here HPQ.out hany))
                  clear hC hany
                  go_wp2_with fail
                  refine HC.out.mono ?_
                  rintro e w7 ⟨rfl, h7⟩
                  have HB8 := Lib.hid (HB6.out.trans (h7.mono HB6.out.size))
                  have hbq := HKEEP.out _ HB8.out
                  have b0 := cell_of_heap hbq 0
                  have bf := frozen_of_heap hbq
                  clear h7 hbq
                  go_wp2_with fail
                  refine bodyPost_ret (v := .tuple #[.agg #[.slice none 0 0], .int .i64 12]) (by simp [results, Tryz.results19, go_sem, b0]) rfl ?_
                  exact HOUT.out _ _ HE.out HB8.out _
              · have hE := HOK.out (by
                  have := han.out
                  rwa [List.take_of_length_le (by rw [← HNQ.out]; omega)] at this)
                have hro := HROW.out.below HBQ.out
                have hfin : ∀ v, MakeTo w (makeT ps) (.returned (.tuple #[.agg #[.slice a1 n c1], .int .i64 0])) (wr.setCell ⟨b, 0, none⟩ v) := by
                  intro v
                  rw [hE, HNQ.out]
                  have hz := HZ.out
                  have hw := HWR.out
                  refine ⟨a1, c1, rfl, (hro.keep (fun g hg _ => Below.heap_setCell _ _ _ _ (by simp; omega))).base (by omega), ?_⟩
                  exact HB1.out.trans ((HBV.out.mono (by omega)).setCell (p := ⟨b, 0, none⟩) (by simp; omega) v)
                have HFIN := Lib.hid hfin
                have hbq := HKEEP.out _ HBV.out
                have b0 := cell_of_heap hbq 0
                have bf := frozen_of_heap hbq
                clear hbq hfin hro hE
                go_wp2_with fail
                refine bodyPost_ret (v := .tuple #[.agg #[.slice a1 n c1], .int .i64 0]) (by simp [results, Tryz.results19, go_sem, b0]) rfl ?_
                exact HFIN.out _
end Go.Proofs.YtjcimajkjnjdpabGreatDoor
