/- DERIVED. Chains of self-hosting versions: StageRound, walked. -/
import Derived.Test.YtaagkndhgicifaaGreatStgAl
import Derived.Test.YtaagkndhgicifaaGreatStgRd
namespace Go.Proofs.YtaagkndhgicifaaGreat
open Go.RowKit Go.Shelf
set_option linter.unusedVariables false
set_option linter.unusedSimpArgs false
set_option maxRecDepth 100000

theorem cS_add {J : List Int} (hJ : ∀ i ∈ J, 1 ≤ i ∧ i ≤ 30) (hd : J.Nodup) {k : Int} (hk : 1 ≤ k ∧ k ≤ 30) (hn : k ∉ J) : (cS J).add (toolR n_cc k n_cc (k - 1) k) = (cS (J ++ [k]), 0) := by
  have hl : J.length < 32 := by
    have h1 := List.Nodup.length_le_of_subset (l₂ := (List.range 30).map fun k : Nat => (k : Int) + 1) hd (fun i hi => by
      have := hJ i hi
      exact List.mem_map.2 ⟨(i - 1).toNat, List.mem_range.2 (by omega), by omega⟩)
    rw [List.length_map, List.length_range] at h1
    omega
  have hg : goodRc (toolR n_cc k n_cc (k - 1) k) = true := by
    have h1 : nameB n_cc = true := by decide
    unfold goodRc pkgB depB rangeB depsB toolR verGood
    simp [h1, rise]
    omega
  have hh : (cS J).has (toolR n_cc k n_cc (k - 1) k).pkg = false := cS_has (i := k) (by omega) hn
  unfold St.add
  rw [hg, hh, if_neg (by decide), if_neg (by decide), if_neg (by show ¬ (J.map cR).length = 32; rw [List.length_map]; omega)]
  unfold cS
  simp [cR]
theorem cS_seed0 : St.empty.seed (n_cc, 0, 0, 0) = (cS [], 0) := by kernel_rfl
set_option maxHeartbeats 8000000 in
theorem round_any (w : World) (n cut : Int) : Calls Tryz.prog 4 #[.int .i64 n, .int .i64 cut] w (fun e w' => e = .returned (.bool true) ∧ Below w.heap.size w w') := by
  go_enter Tryz.func4, Tryz.ntmps4
  go_wp2_with fail
  refine (alive_any w).mono ?_
  rintro e w1 ⟨rfl, h1⟩
  have HB1 := Lib.hid h1
  clear h1
  by_cases g1 : n < 1
  · go_wp2_with fail
    go_ret
    exact ⟨rfl, HB1.out⟩
  by_cases g2 : 30 < n
  · go_wp2_with fail
    go_ret
    exact ⟨rfl, HB1.out⟩
  by_cases g3 : cut < 1
  · go_wp2_with fail
    go_ret
    exact ⟨rfl, HB1.out⟩
  by_cases g4 : 40 < cut
  · go_wp2_with fail
    go_ret
    exact ⟨rfl, HB1.out⟩
  go_wp2_with fail
  refine (stknew_any w1).mono ?_
  rintro e w2 ⟨B, F0, rfl, hst, hF0, h2⟩
  have HS2 := Lib.hid (show StkOwn w w2 B St.empty from ⟨F0, hst, fun b hb => Nat.le_trans HB1.out.size (hF0 b hb), HB1.out.trans (h2.mono HB1.out.size)⟩)
  clear hst hF0 h2
  go_wp2_with fail
  refine (pkg_any w2 _ _).mono ?_
  rintro e w3 ⟨rfl, h3⟩
  have HS3 := Lib.hid (HS2.out.below h3)
  clear h3
  go_wp2_with fail
  refine (own_seed HS3.out n_cc 0 (by decide) rfl).mono ?_
  rintro e w4 ⟨rfl, h4⟩
  rw [cS_seed0] at h4
  have HS4 := Lib.hid h4
  clear h4
  obtain ⟨N, rfl⟩ : ∃ N : Nat, n = (N : Int) := ⟨n.toNat, by omega⟩
  go_wp2_with fail
  go_loopw [6] (fun x wr => ∃ (k : Nat) (J : List Int), x = .int .i64 k ∧ k ≤ N ∧ Hid (∀ i, i ∈ J ↔ (k : Int) < i ∧ i ≤ (N : Int) ∧ i ≠ cut) ∧ Hid J.Nodup ∧ Hid (StkOwn w wr B (cS J))) (fun x _ => (intOf x).toNat)
  case atStart => exact ⟨N, [], rfl, Nat.le_refl _, Lib.hid (fun i => ⟨fun h => (by cases h), fun h => by omega⟩), Lib.hid List.nodup_nil, HS4⟩
  case round =>
    obtain ⟨k, J, rfl, hk, hJ, hnd, hst⟩ := hrel
    by_cases hlt : 1 ≤ (k : Int)
    · by_cases hc : (k : Int) = cut
      · go_wp2_with fail
        go_roundw
        case rel =>
          refine ⟨k - 1, J, by go_num, by omega, Lib.hid (fun i => ?_), hnd, hst⟩
          rw [hJ.out i]
          constructor
          · intro h; omega
          · intro h; omega
        case measure => simp [intOf]; omega
      · have hsub : IntKind.i64.wrap ((k : Int) - 1) = (k : Int) - 1 := IntWalk.i64_in _ (by omega)
        go_wp2_with fail
        refine (pkg_any wr _ _).mono ?_
        rintro e v1 ⟨rfl, f1⟩
        have HS5 := Lib.hid (hst.out.below f1)
        clear f1
        go_wp2_with fail
        refine (tool_any v1 _ _ _ _ _ (by omega) (by omega)).mono ?_
        rintro e v2 ⟨g, rfl, hg, hx, f2⟩
        have HS6 := Lib.hid (HS5.out.below f2)
        have HX := Lib.hid hx
        clear hg hx f2
        have hadd := own_tool HS6.out n_cc n_cc k ((k : Int) - 1) k (by decide) (by decide) rfl rfl HX.out
        rw [cS_add (fun i hi => by have := (hJ.out i).1 hi; omega) hnd.out (by omega) (fun hi => by have := (hJ.out _).1 hi; omega)] at hadd
        have HADD := Lib.hid hadd
        clear hadd
        go_wp2_with fail
        refine HADD.out.mono ?_
        rintro e v3 ⟨rfl, hs⟩
        have HS7 := Lib.hid hs
        clear hs
        go_wp2_with fail
        go_roundw
        case rel =>
          refine ⟨k - 1, J ++ [(k : Int)], by go_num, by omega, Lib.hid (fun i => ?_), Lib.hid ?_, HS7⟩
          · rw [List.mem_append, List.mem_singleton, hJ.out i]
            constructor
            · rintro (h | rfl) <;> omega
            · intro h; omega
          · refine List.nodup_append.2 ⟨hnd.out, by simp, fun a ha b hb => ?_⟩
            rw [List.mem_singleton.1 hb]
            rintro rfl
            have := (hJ.out _).1 ha
            omega
        case measure => simp [intOf]; omega
    · have hJ2 : ∀ i, i ∈ J ↔ 1 ≤ i ∧ i ≤ (N : Int) ∧ i ≠ cut := fun i => by rw [hJ.out i]; constructor <;> (intro h; omega)
      obtain ⟨L, l, m, hfx⟩ := cS_some hJ2 ⟨by omega, by omega⟩ hnd.out
      have HJ := Lib.hid hJ2; have HFX := Lib.hid hfx; have HST := Lib.hid hst.out
      clear hJ2 hfx
      obtain ⟨W0, hW0⟩ : ∃ W, W = wr := ⟨_, rfl⟩
      subst hW0
      go_wp2_with fail
      refine (own_fix HST.out 2000 (by decide)).mono ?_
      intro e w5 hfp
      obtain ⟨h5, Tb, es, rfl, hes, hsg⟩ := hfp.some HFX.out
      have hres := fixT_res HFX.out
      have HB5 := Lib.hid (HST.out.below0.trans (h5.mono HST.out.below0.size)); have HSG := Lib.hid hsg; have HES := Lib.hid hes; have HRES := Lib.hid hres
      clear hfp h5 hsg hes hres
      go_wp2_with fail
      go_loopw [9] (fun x wr => ∃ j : Nat, x = .int .i64 j ∧ j ≤ N + 1 ∧ Hid (Below w5.heap.size w5 wr)) (fun x _ => N + 1 - (intOf x).toNat)
      case atStart => exact ⟨0, rfl, Nat.zero_le _, Lib.hid (Below.refl _ _)⟩
      case round =>
        obtain ⟨j, rfl, hj, hbw⟩ := hrel
        by_cases hle : (j : Int) ≤ (N : Int)
        · obtain ⟨hg1, hg2⟩ := cS_get HJ.out ⟨by omega, by omega⟩ (by omega) HRES.out j hle
          go_wp2_with fail
          refine (pkg_any wr _ _).mono ?_
          rintro e v1 ⟨rfl, f1⟩
          have HB6 := Lib.hid (hbw.out.trans (f1.mono hbw.out.size))
          clear f1
          have HGE := Lib.hid (sget_any v1 _ Tb es _ _ (HSG.out.below HB6.out) (n_cc, (j : Int), 0, 0))
          go_wp2_with fail
          refine HGE.out.mono ?_
          intro e v2 hgp
          rw [HES.out] at hgp
          obtain ⟨f2, a, c, he, -⟩ := hgp
          have hg1' : (getE L (n_cc, (j : Int), 0, 0)).2 = decide ((j : Int) < cut) := hg1
          have hg2' : (j : Int) < cut → (getE L (n_cc, (j : Int), 0, 0)).1.stage = j := hg2
          rw [hg1'] at he
          obtain ⟨x, hx⟩ : ∃ x, x = (getE L (n_cc, (j : Int), 0, 0)).1 := ⟨_, rfl⟩
          rw [← hx] at he hg2'
          obtain ⟨S, T, p1, p2, p3, sg, t1, t2, t3, n9, hl⟩ := ent_let x
          rw [hl.arr] at he
          rw [← hl.g] at hg2'
          subst he
          obtain ⟨v3, hv3, f3, hx3, y1, y2⟩ := any_block v2 #[.string S, .int .i64 p1, .int .i64 p2, .int .i64 p3, .int .i64 sg, .string T, .int .i64 t1, .int .i64 t2, .int .i64 t3, .slice a n9 c] 45
          obtain ⟨b3, hb3⟩ : ∃ b, v2.heap.size = b := ⟨_, rfl⟩
          rw [hb3] at hx3
          have q4 := cell_of_heap hx3 4
          have HB7 := Lib.hid (HB6.out.trans ((f2.trans (f3.mono f2.size)).mono HB6.out.size))
          clear hg1 hg2 hg1' hx hl f2 f3 hx3 y1 y2
          by_cases hc : (j : Int) < cut
          · obtain rfl : sg = j := hg2' hc
            have hd : decide ((j : Int) < cut) = true := decide_eq_true hc
            rw [hd]
            clear hg2'
            go_wp2_with fail
            go_roundw
            case rel => exact ⟨j + 1, by go_num, by omega, HB7⟩
            case measure => simp [intOf]; omega
          · have hd : decide ((j : Int) < cut) = false := decide_eq_false hc
            rw [hd]
            clear hg2'
            go_wp2_with fail
            go_roundw
            case rel => exact ⟨j + 1, by go_num, by omega, HB7⟩
            case measure => simp [intOf]; omega
        · have hln := cS_len HJ.out ⟨by omega, by omega⟩ (by omega) HRES.out
          have hsub : IntKind.i64.wrap ((N : Int) - cut) = (N : Int) - cut := IntWalk.i64_in _ (by omega)
          have HSL := Lib.hid (sless_any wr _ Tb es _ _ (HSG.out.below hbw.out))
          have HLN := Lib.hid hln
          clear hln
          go_wp2_with fail
          refine HSL.out.mono ?_
          rintro e v1 ⟨al, cl, rfl, hr, f1⟩
          have HB6 := Lib.hid (hbw.out.trans (f1.mono hbw.out.size))
          have hm : ((l.length : Int) == max ((N : Int) - cut) 0) = true := by rw [HLN.out, beq_iff_eq]; omega
          clear hr f1
          go_wp2_with fail
          go_ret
          exact ⟨by first | rfl | simp [hm], HB5.out.trans (HB6.out.mono HB5.out.size)⟩
end Go.Proofs.YtaagkndhgicifaaGreat
