/- DERIVED. More recipes and seeds take nothing away: StageMore, walked. (Printed by stmoregen.py.) -/
import Derived.Test.YtaagkndhgicifaaGreatStgLw
namespace Go.Proofs.YtaagkndhgicifaaGreat
open Go.RowKit Go.Shelf
attribute [local go_sem] Oper.semAt_some
set_option linter.unusedVariables false
set_option linter.unusedSimpArgs false
set_option maxRecDepth 100000

theorem more_get {s s' : St} (h : StSub s s') (ho : s.Ok) (ho' : s'.Ok) {L M : List Ent} {l k : List Pk} {m m' lf lf' : Int} (hL : fixT s lf = some (L, l, m)) (hM : fixT s' lf' = some (M, k, m')) {x : Ent} (hx : x ∈ L) :
    (getE M x.pkg).2 = true ∧ (getE M x.pkg).1.stage ≤ x.stage ∧ s.has x.pkg = true := by
  have rL := fixT_res hL
  have rM := fixT_res hM
  have h0 := rL.stage0 hx
  obtain ⟨z, hz, hzp, hzs⟩ := fix_more h ho ho' rL rM x.stage.toNat x hx (by omega)
  have hn : (M.map Ent.pkg).Nodup := (List.nodup_append.1 rM.nodup).1
  have hg := getE_mem hn hz
  rw [hzp] at hg
  refine ⟨by rw [hg], by rw [hg]; exact hzs, St.has_iff.2 (St.mem_all.1 (rL.all.mem_iff.1 (List.mem_append_left _ (List.mem_map.2 ⟨x, hx, rfl⟩))))⟩
set_option maxHeartbeats 16000000 in
theorem more_any (w : World) (u1 u2 v1 v2 : Value) (x y : Pack) (hx : PackAt w u1 u2 x) (hy : PackAt w v1 v2 y) : Calls Tryz.prog 5 #[.agg #[u1, u2], .agg #[v1, v2]] w (fun e w' => e = .returned (.bool true) ∧ Below w.heap.size w w') := by
  obtain ⟨a0, c0, rfl, -⟩ := id hx.1
  obtain ⟨a5, c5, rfl, -⟩ := id hx.2.2
  obtain ⟨a7, c7, rfl, -⟩ := id hy.1
  obtain ⟨a8, c8, rfl, -⟩ := id hy.2.2
  obtain ⟨n0, hn0⟩ : ∃ z, z = x.seeds.length := ⟨_, rfl⟩
  obtain ⟨n5, hn5⟩ : ∃ z, z = x.recs.length := ⟨_, rfl⟩
  obtain ⟨n7, hn7⟩ : ∃ z, z = y.seeds.length := ⟨_, rfl⟩
  obtain ⟨n8, hn8⟩ : ∃ z, z = y.recs.length := ⟨_, rfl⟩
  rw [← hn0, ← hn5] at hx; rw [← hn7, ← hn8] at hy; rw [← hn0, ← hn5, ← hn7, ← hn8]
  obtain ⟨w1, hw1, hb1, hx1, y1, y2⟩ := any_block w #[.slice a0 n0 c0, .slice a5 n5 c5] 25
  obtain ⟨w2, hw2, hb2, hx2, y3, y4⟩ := any_block w1 #[.slice a7 n7 c7, .slice a8 n8 c8] 25
  obtain ⟨w3, hw3, hb3, hx3, y5, y6⟩ := any_block w2 #[.bool false] 4
  obtain ⟨b2, hb2e⟩ : ∃ b, w.heap.size = b := ⟨_, rfl⟩
  obtain ⟨b3, hb3e⟩ : ∃ b, w1.heap.size = b := ⟨_, rfl⟩
  obtain ⟨b4, hb4e⟩ : ∃ b, w2.heap.size = b := ⟨_, rfl⟩
  have hb12 := hb1.trans (hb2.mono hb1.size)
  have hb13 := hb12.trans (hb3.mono hb12.size)
  have g1 := (hb3.block _ (by omega)).trans ((hb2.block _ (by omega)).trans hx1)
  have g2 := (hb3.block _ (by omega)).trans hx2
  rw [hb2e] at g1; rw [hb3e] at g2; rw [hb4e] at hx3
  have G23 := Lib.hid g1; have G33 := Lib.hid g2; have G43 := Lib.hid hx3; have HB3 := Lib.hid hb13; have HX := Lib.hid hx; have HY := Lib.hid hy; have HN := Lib.hid (And.intro hn7 hn8); have HSZ := Lib.hid (show w.heap.size ≤ b4 ∧ b4 < w3.heap.size from by omega)
  clear hx hy hn0 hn5 hn7 hn8 hb1 hb2 hb3 hb12 hb13 hx1 hx2 hx3 g1 g2 y1 y2 y3 y4 y5 y6
  refine calls_of_wp_marks Tryz.func5 rfl ?_
  simp only [Tryz.ntmps5, List.size_toArray, List.length_cons, List.length_nil, Nat.reduceAdd, Nat.reduceSub, Array.replicate_succ, Array.replicate_zero, List.push_toArray, List.append_toArray, List.nil_append, List.cons_append]
  go_wp2_with fail
  refine (alive_any w3).mono ?_
  rintro e w4 ⟨rfl, h4⟩
  have G24 := Lib.hid ((h4.block _ (lt_of_heap G23.out)).trans G23.out); have G34 := Lib.hid ((h4.block _ (lt_of_heap G33.out)).trans G33.out); have G44 := Lib.hid ((h4.block _ (lt_of_heap G43.out)).trans G43.out)
  have HB4 := Lib.hid (HB3.out.trans (h4.mono HB3.out.size)); have HZ4 := Lib.hid h4.size
  clear h4
  have u0 := cell_of_heap G24.out 0
  have u1 := cell_of_heap G24.out 1
  have HBG := Lib.hid (begun_any w4 _ _ x (HX.out.below HB4.out))
  go_wp2_with fail
  refine HBG.out.mono ?_
  rintro e w5 ⟨h5, B, a1, n1, c1, a2, n2, c2, ok, rfl, hok⟩
  obtain ⟨w6, hw6, hb6, hx6, y1, y2⟩ := any_block w5 #[.slice a1 n1 c1, .slice a2 n2 c2] 28
  obtain ⟨b6, hb6e⟩ : ∃ b, w5.heap.size = b := ⟨_, rfl⟩
  have hbe := fun (h : ok = true) => (hok h)
  rw [hb6e] at hx6
  have h46 := h5.trans (hb6.mono h5.size)
  have G26 := Lib.hid ((h46.block _ (lt_of_heap G24.out)).trans G24.out); have G36 := Lib.hid ((h46.block _ (lt_of_heap G34.out)).trans G34.out); have G46 := Lib.hid ((h46.block _ (lt_of_heap G44.out)).trans G44.out)
  have HB6 := Lib.hid (HB4.out.trans (h46.mono HB4.out.size)); have HZ6 := Lib.hid h46; have HX6 := Lib.hid hx6; have HB56 := Lib.hid hb6; have HZ56 := Lib.hid (show w5.heap.size = b6 from hb6e)
  clear h5 hb6 h46 hx6 y1 y2 hbe u0 u1
  have u0 := cell_of_heap G36.out 0
  have u1 := cell_of_heap G36.out 1
  cases ok
  · have z0 := cell_of_heap G46.out 0
    have zf := frozen_of_heap G46.out
    have r0 := one_cellB (.bool true) G46.out
    go_wp2_with fail
    refine marks_ret0 (v := .bool true) (by simp [results, Tryz.results5, go_sem, r0]) rfl ⟨rfl, ?_⟩
    first | exact (HB6.out).setCell (p := ⟨b4, 0, none⟩) HSZ.out.1 _ | (have hq := (HB6.out).setCell (p := ⟨b4, 0, none⟩) HSZ.out.1 (.bool true); rw [hb2e] at hq; exact hq)
  · have HSZ2 := Lib.hid (show b3 < w3.heap.size ∧ b4 < w3.heap.size from ⟨lt_of_heap G33.out, lt_of_heap G43.out⟩)
    obtain ⟨st, F, hbeg⟩ := hok rfl
    have hbe6 := hbeg.below HB56.out
    have hb6F : b6 ∉ F := fun hm => by have := hbeg.stk.lt b6 hm; have := HZ56.out; omega
    have HBE := Lib.hid hbe6; have HB6F := Lib.hid hb6F
    clear hok hbeg hbe6 hb6F
    by_cases k7 : 10 < n7
    · have z0 := cell_of_heap G46.out 0
      have zf := frozen_of_heap G46.out
      have r0 := one_cellB (.bool true) G46.out
      go_wp2_with fail
      refine marks_ret0 (v := .bool true) (by simp [results, Tryz.results5, go_sem, r0]) rfl ⟨rfl, ?_⟩
      first | exact (HB6.out).setCell (p := ⟨b4, 0, none⟩) HSZ.out.1 _ | (have hq := (HB6.out).setCell (p := ⟨b4, 0, none⟩) HSZ.out.1 (.bool true); rw [hb2e] at hq; exact hq)
    by_cases k8 : 10 < n8
    · have z0 := cell_of_heap G46.out 0
      have zf := frozen_of_heap G46.out
      have r0 := one_cellB (.bool true) G46.out
      go_wp2_with fail
      refine marks_ret0 (v := .bool true) (by simp [results, Tryz.results5, go_sem, r0]) rfl ⟨rfl, ?_⟩
      first | exact (HB6.out).setCell (p := ⟨b4, 0, none⟩) HSZ.out.1 _ | (have hq := (HB6.out).setCell (p := ⟨b4, 0, none⟩) HSZ.out.1 (.bool true); rw [hb2e] at hq; exact hq)
    have HF1 := Lib.hid (fix_any w6 B F st HBE.out.stk 600 (by decide))
    go_wp2_with fail
    refine HF1.out.mono ?_
    intro e w7 hfp
    obtain ⟨h7, po, e0, rfl, hq1⟩ := hfp.q
    have hk7 : Keep (fun b => b ∉ F) (fun b => b ∉ F) w6 w7 := Keep.below h7
    have hstk7 := HBE.out.stk.below h7
    have G27 := Lib.hid ((h7.block _ (lt_of_heap G26.out)).trans G26.out); have G37 := Lib.hid ((h7.block _ (lt_of_heap G36.out)).trans G36.out); have G47 := Lib.hid ((h7.block _ (lt_of_heap G46.out)).trans G46.out)
    have HQ1 := Lib.hid hq1; have HK7 := Lib.hid hk7; have HS7 := Lib.hid hstk7; have HB7 := Lib.hid (HB6.out.trans (h7.mono HB6.out.size)); have HZ7 := Lib.hid h7.size
    clear hfp h7 hq1 hk7 hstk7 u0 u1
    have u0 := cell_of_heap G37.out 0
    have u1 := cell_of_heap G37.out 1
    go_wp2_with fail
    clear u0 u1
    go_loopw [49] (fun i wr => ∃ (k : Nat) (F' : List Nat) (st' : St), i = .int .i64 k ∧ k ≤ n7 ∧ Hid (StkAt wr B F' st') ∧ Hid (StSub st st') ∧ Hid (∀ b ∈ F', w3.heap.size ≤ b) ∧ Hid (Keep (fun b => b ∉ F) (fun b => b ∉ F') w7 wr) ∧ Hid (Below w3.heap.size w7 wr)) (fun i _ => n7 - (intOf i).toNat)
    case atStart => exact ⟨0, F, st, rfl, Nat.zero_le _, HS7, Lib.hid (StSub.refl _), Lib.hid (fun b hb => by have h1 := HBE.out.new b hb; have := HZ4.out; omega), Lib.hid Keep.rfl', Lib.hid (Below.refl _ _)⟩
    case round =>
      obtain ⟨k, F', st', rfl, hk, hstk, hsub, hnew, hkp, hbw⟩ := hrel
      obtain ⟨W0, hW0⟩ : ∃ W, W = wr := ⟨_, rfl⟩
      subst hW0
      have hbW : Below w.heap.size w W0 := HB7.out.trans (hbw.out.mono (by have := HSZ.out; omega))
      have g3 := (hbw.out.block _ (by have := HSZ.out; have := HSZ2.out; omega)).trans G37.out
      have g4 := (hbw.out.block _ (by have := HSZ.out; have := HSZ2.out; omega)).trans G47.out
      by_cases hlt : k < n7
      · obtain ⟨q, hq⟩ : ∃ q, y.seeds[k]? = some q := ⟨_, List.getElem?_eq_getElem (by rw [← HN.out.1]; exact hlt)⟩
        have hsl := HY.out.2.1 q (List.mem_of_getElem? hq)
        obtain ⟨bC, oC, S, rfl, hS, q0, q1, q2, q3⟩ := (HY.out.1.below hbW).cells hq
        obtain ⟨s1, hs1⟩ : ∃ y, y = q.2.1 := ⟨_, rfl⟩
        obtain ⟨s2, hs2⟩ : ∃ y, y = q.2.2.1 := ⟨_, rfl⟩
        obtain ⟨s3, hs3⟩ : ∃ y, y = q.2.2.2 := ⟨_, rfl⟩
        rw [← hs1] at q1; rw [← hs2] at q2; rw [← hs3] at q3
        obtain ⟨w8, hw8, hb8, hx8, y1, y2⟩ := any_block W0 #[.string S, .int .i64 s1, .int .i64 s2, .int .i64 s3] 41
        obtain ⟨b8, hb8e⟩ : ∃ b, W0.heap.size = b := ⟨_, rfl⟩
        rw [hb8e] at hx8
        have hst8 := hstk.out.below hb8
        have hkb : Keep (fun b => b ∉ F') (fun b => b ∉ F') W0 w8 := Keep.below hb8
        have hsa := stkseed_any w8 B F' st' hst8 q hsl
        rw [hS, ← hs1, ← hs2, ← hs3] at hsa
        have G48 := Lib.hid ((hb8.block _ (lt_of_heap g4)).trans g4)
        have HSA := Lib.hid hsa; have HKB := Lib.hid hkb; have HB8 := Lib.hid (hbW.trans (hb8.mono hbW.size)); have HBW8 := Lib.hid (hbw.out.trans (hb8.mono (by have := HZ7.out; have := HZ6.out.size; have := HZ4.out; have := hbw.out.size; omega)))
        have k0 := cell_of_heap hx8 0
        have k1 := cell_of_heap hx8 1
        have k2 := cell_of_heap hx8 2
        have k3 := cell_of_heap hx8 3
        clear hq hb8 hx8 hst8 hkb hsa hbW g3 g4 y1 y2 hsl hS hs1 hs2 hs3
        by_cases e4 : 100 < S.size
        · have z0 := cell_of_heap G48.out 0
          have zf := frozen_of_heap G48.out
          have r0 := one_cellB (.bool true) G48.out
          go_wp2_with fail
          refine marks_ret0 (v := .bool true) (by simp [results, Tryz.results5, go_sem, r0]) rfl ⟨rfl, ?_⟩
          first | exact (HB8.out).setCell (p := ⟨b4, 0, none⟩) HSZ.out.1 _ | (have hq := (HB8.out).setCell (p := ⟨b4, 0, none⟩) HSZ.out.1 (.bool true); rw [hb2e] at hq; exact hq)
        go_wp2_with fail
        refine HSA.out.mono ?_
        rintro e w9 ⟨rfl, F'', hs9, hc9, hn9⟩
        have HNX := Lib.hid (show (∀ b ∈ F'', w3.heap.size ≤ b) ∧ Below w3.heap.size w7 w9 from ⟨fun b hb => by rcases hn9 b hb with hb | hb; exact hnew.out b hb; exact Nat.le_trans (Nat.le_trans (by have := HZ7.out; have := HZ6.out.size; have := HZ4.out; omega) HBW8.out.size) hb, HBW8.out.trans (below_of_ch hc9 (fun b hb => hnew.out b hb) (by have := HZ7.out; have := HZ6.out.size; have := HZ4.out; have := HBW8.out.size; omega))⟩)
        have HS9 := Lib.hid hs9; have HK9 := Lib.hid ((hkp.out.tr HKB.out).tr (seedP_keep (B := B) hc9 hn9))
        clear hs9 hc9 hn9
        go_wp2_with fail
        go_roundw
        case rel => exact ⟨k + 1, F'', (st'.seed q).1, by go_num, hlt, HS9, Lib.hid (hsub.out.trans (sub_seed st' q)), Lib.hid HNX.out.1, HK9, Lib.hid HNX.out.2⟩
        case measure => simp [intOf]; omega
      · obtain rfl : n7 = k := by omega
        obtain ⟨W1, hW1⟩ : ∃ W, W = W0 := ⟨_, rfl⟩
        subst hW1
        have u0 := cell_of_heap g3 0
        have u1 := cell_of_heap g3 1
        go_wp2_with fail
        clear u0 u1 g3 g4 hbW
        go_loopw [64] (fun i wr => ∃ (k : Nat) (F' : List Nat) (st' : St), i = .int .i64 k ∧ k ≤ n8 ∧ Hid (StkAt wr B F' st') ∧ Hid (StSub st st') ∧ Hid (∀ b ∈ F', w3.heap.size ≤ b) ∧ Hid (Keep (fun b => b ∉ F) (fun b => b ∉ F') w7 wr) ∧ Hid (Below w3.heap.size w7 wr)) (fun i _ => n8 - (intOf i).toNat)
        case atStart => exact ⟨0, F', st', rfl, Nat.zero_le _, hstk, hsub, hnew, hkp, hbw⟩
        case round =>
          obtain ⟨k, F', st', rfl, hk, hstk, hsub, hnew, hkp, hbw⟩ := hrel
          obtain ⟨W0, hW0⟩ : ∃ W, W = wr := ⟨_, rfl⟩
          subst hW0
          have hbW : Below w.heap.size w W0 := HB7.out.trans (hbw.out.mono (by have := HSZ.out; omega))
          have g3 := (hbw.out.block _ (by have := HSZ.out; have := HSZ2.out; omega)).trans G37.out
          have g4 := (hbw.out.block _ (by have := HSZ.out; have := HSZ2.out; omega)).trans G47.out
          by_cases hlt : k < n8
          · obtain ⟨q, hq⟩ : ∃ q, y.recs[k]? = some q := ⟨_, List.getElem?_eq_getElem (by rw [← HN.out.2]; exact hlt)⟩
            obtain ⟨bC, oC, R, Q, t1, m1, d1, t2, m2, d2, t3, m3, d3, rfl, hR, hrec, q0, q1, q2, q3, q4, q5, q6, q7⟩ := (HY.out.2.2.below hbW).cells hq
            obtain ⟨r1, hr1⟩ : ∃ y, y = q.pkg.2.1 := ⟨_, rfl⟩
            obtain ⟨r2, hr2⟩ : ∃ y, y = q.pkg.2.2.1 := ⟨_, rfl⟩
            obtain ⟨r3, hr3⟩ : ∃ y, y = q.pkg.2.2.2 := ⟨_, rfl⟩
            rw [← hr1] at q1; rw [← hr2] at q2; rw [← hr3] at q3; rw [← hr1, ← hr2, ← hr3] at hrec
            obtain ⟨w8, hw8, hb8, hx8, y1, y2⟩ := any_block W0 #[.string R, .int .i64 r1, .int .i64 r2, .int .i64 r3, .string Q, .slice t1 m1 d1, .slice t2 m2 d2, .slice t3 m3 d3] 62
            obtain ⟨b8, hb8e⟩ : ∃ b, W0.heap.size = b := ⟨_, rfl⟩
            rw [hb8e] at hx8
            have hst8 := hstk.out.below hb8
            have hkb : Keep (fun b => b ∉ F') (fun b => b ∉ F') W0 w8 := Keep.below hb8
            have hsa := stkadd_any w8 B F' st' hst8 zAll _ q (hrec.below hb8)
            have G48 := Lib.hid ((hb8.block _ (lt_of_heap g4)).trans g4)
            have HSA := Lib.hid hsa; have HKB := Lib.hid hkb; have HB8 := Lib.hid (hbW.trans (hb8.mono hbW.size)); have HBW8 := Lib.hid (hbw.out.trans (hb8.mono (by have := HZ7.out; have := HZ6.out.size; have := HZ4.out; have := hbw.out.size; omega)))
            have k0 := cell_of_heap hx8 0
            have k1 := cell_of_heap hx8 1
            have k2 := cell_of_heap hx8 2
            have k3 := cell_of_heap hx8 3
            have k4 := cell_of_heap hx8 4
            have k5 := cell_of_heap hx8 5
            have k6 := cell_of_heap hx8 6
            have k7 := cell_of_heap hx8 7
            clear hq hb8 hx8 hst8 hkb hsa hbW g3 g4 y1 y2 hR hrec hr1 hr2 hr3
            by_cases e2 : 20 < m2
            · have z0 := cell_of_heap G48.out 0
              have zf := frozen_of_heap G48.out
              have r0 := one_cellB (.bool true) G48.out
              go_wp2_with fail
              refine marks_ret0 (v := .bool true) (by simp [results, Tryz.results5, go_sem, r0]) rfl ⟨rfl, ?_⟩
              first | exact (HB8.out).setCell (p := ⟨b4, 0, none⟩) HSZ.out.1 _ | (have hq := (HB8.out).setCell (p := ⟨b4, 0, none⟩) HSZ.out.1 (.bool true); rw [hb2e] at hq; exact hq)
            by_cases e3 : 20 < m3
            · have z0 := cell_of_heap G48.out 0
              have zf := frozen_of_heap G48.out
              have r0 := one_cellB (.bool true) G48.out
              go_wp2_with fail
              refine marks_ret0 (v := .bool true) (by simp [results, Tryz.results5, go_sem, r0]) rfl ⟨rfl, ?_⟩
              first | exact (HB8.out).setCell (p := ⟨b4, 0, none⟩) HSZ.out.1 _ | (have hq := (HB8.out).setCell (p := ⟨b4, 0, none⟩) HSZ.out.1 (.bool true); rw [hb2e] at hq; exact hq)
            by_cases e5 : 100 < R.size
            · have z0 := cell_of_heap G48.out 0
              have zf := frozen_of_heap G48.out
              have r0 := one_cellB (.bool true) G48.out
              go_wp2_with fail
              refine marks_ret0 (v := .bool true) (by simp [results, Tryz.results5, go_sem, r0]) rfl ⟨rfl, ?_⟩
              first | exact (HB8.out).setCell (p := ⟨b4, 0, none⟩) HSZ.out.1 _ | (have hq := (HB8.out).setCell (p := ⟨b4, 0, none⟩) HSZ.out.1 (.bool true); rw [hb2e] at hq; exact hq)
            go_wp2_with fail
            refine HSA.out.mono ?_
            rintro e w9 ⟨rfl, F'', hs9, hc9, hn9⟩
            have HNX := Lib.hid (show (∀ b ∈ F'', w3.heap.size ≤ b) ∧ Below w3.heap.size w7 w9 from ⟨fun b hb => by rcases hn9 b hb with hb | hb; exact hnew.out b hb; exact Nat.le_trans (Nat.le_trans (by have := HZ7.out; have := HZ6.out.size; have := HZ4.out; omega) HBW8.out.size) hb, HBW8.out.trans (below_of_ch hc9 (fun b hb => hnew.out b hb) (by have := HZ7.out; have := HZ6.out.size; have := HZ4.out; have := HBW8.out.size; omega))⟩)
            have HS9 := Lib.hid hs9; have HK9 := Lib.hid ((hkp.out.tr HKB.out).tr (seedP_keep (B := B) hc9 hn9))
            clear hs9 hc9 hn9
            go_wp2_with fail
            go_roundw
            case rel => exact ⟨k + 1, F'', (st'.add q).1, by go_num, hlt, HS9, Lib.hid (hsub.out.trans (sub_add st' q)), Lib.hid HNX.out.1, HK9, Lib.hid HNX.out.2⟩
            case measure => simp [intOf]; omega
          · obtain rfl : n8 = k := by omega
            have HF2 := Lib.hid (fix_any W0 B F' st' hstk.out 2000 (by decide))
            have hok2 : st'.Ok := by obtain ⟨_, _, _, _, h⟩ := hstk.out; exact h.ok
            go_wp2_with fail
            refine HF2.out.mono ?_
            intro e w8 hfp
            obtain ⟨h8, p2, e2, rfl, hq2⟩ := hfp.q
            obtain ⟨w9, hw9, hb9, hx9, y1, y2⟩ := any_block w8 #[.pointer p2] 31
            obtain ⟨b9, hb9e⟩ : ∃ b, w8.heap.size = b := ⟨_, rfl⟩
            rw [hb9e] at hx9
            have h89 := h8.trans (hb9.mono h8.size)
            have G49 := Lib.hid ((h89.block _ (lt_of_heap g4)).trans g4)
            have HQ2 := Lib.hid hq2; have HX9 := Lib.hid hx9; have HB9 := Lib.hid (hbW.trans (h89.mono hbW.size)); have HK9 := Lib.hid (hkp.out.tr (Keep.below h89)); have HOK2 := Lib.hid hok2; have HB89 := Lib.hid hb9; have HZ9 := Lib.hid h89.size
            clear hfp h8 hq2 hb9 hx9 h89 hok2 hbW g3 g4 y1 y2
            by_cases k0 : e0 = 0
            · subst k0
              by_cases k2 : e2 = 0
              · subst k2
                obtain ⟨Tb, es, l, m, rfl, hft, hsg⟩ : ∃ Tb es l m, po = some ⟨Tb, 0, none⟩ ∧ fixT st 600 = some (es.map Prod.fst, l, m) ∧ StgAt (zNew w6.heap.size) w7 Tb es l m := by
                  rcases HQ1.out with ⟨-, h, -⟩ | ⟨Tb, es, l, m, h1, -, h2, h3⟩
                  · cases h
                  · exact ⟨Tb, es, l, m, h1, h2, h3⟩
                obtain ⟨T2, es2, lx2, mx2, rfl, hft2, hsg2⟩ : ∃ Tb es l m, p2 = some ⟨Tb, 0, none⟩ ∧ fixT st' 2000 = some (es.map Prod.fst, l, m) ∧ StgAt (zNew W0.heap.size) w8 Tb es l m := by
                  rcases HQ2.out with ⟨-, h, -⟩ | ⟨Tb, es, l, m, h1, -, h2, h3⟩
                  · cases h
                  · exact ⟨Tb, es, l, m, h1, h2, h3⟩
                have hzF : ∀ b, w6.heap.size ≤ b → b ∉ F := fun b hb hm => by have := HBE.out.stk.lt b hm; omega
                have hsg9 := ((hsg.keep (Keep.rfl'.to (fun b hb => hzF b hb))).keep HK9.out).all
                have hsg29 := (hsg2.all).below HB89.out
                have href9 : RefAt zAll w9 (.agg #[.slice a1 n1 c1, .slice a2 n2 c2]) st := ((HBE.out.ref.keep HK7.out).keep HK9.out).keep ⟨fun _ _ _ => trivial, Nat.le_refl _, fun _ _ _ h => h⟩
                have hc6 := fun i u (h : w6.cell? ⟨b6, i, none⟩ = some u) => HK9.out.cell ⟨b6, i, none⟩ u HB6F.out (HK7.out.cell ⟨b6, i, none⟩ u HB6F.out h)
                have k60 := hc6 0 _ (cell_of_heap HX6.out 0)
                have k61 := hc6 1 _ (cell_of_heap HX6.out 1)
                have HFT := Lib.hid hft; have HFT2 := Lib.hid hft2; have HSG := Lib.hid hsg9; have HSG2 := Lib.hid hsg29; have HREF := Lib.hid href9; have K60 := Lib.hid k60; have K61 := Lib.hid k61
                clear hft hft2 hsg hsg2 hzF hsg9 hsg29 href9 hc6 k60 k61
                go_wp2_with fail
                refine (sallf_any w9 (some ⟨Tb, 0, none⟩)).mono ?_
                rintro e wC ⟨rfl, hwC⟩
                obtain ⟨wc', hwc', hbC, hxC, y1, y2⟩ := any_block w9 #[.pointer (some ⟨Tb, 0, none⟩)] 31
                obtain rfl : wC = wc' := hwC.trans hwc'
                have hst := sall_stops 7 (by omega) wC zAll Tb _ l m (HSG.out.below hbC) w9.heap.size hxC (fun _ _ => False) (fun _ _ _ h => h)
                obtain ⟨C, hCe⟩ : ∃ C, w9.heap.size = C := ⟨_, rfl⟩
                rw [hCe] at hst
                have HST := Lib.hid hst; have HBC := Lib.hid hbC
                clear hst hbC hxC hwC hwc' y1 y2
                go_wp2_with fail
                try rw [hCe]
                refine (wpIn_wide (n := 8)).1 ?_
                refine range_wideE (n := 8) (by omega) (gf := 48) (lb := #[.pointer (some ⟨C, 0, none⟩)]) rfl enters_sall HST.out (Below.refl _ _) (fun _ => rfl)
                  (fun _ W => Below wC.heap.size wC W) (fun _ _ _ => False) (below_own (Nat.le_refl _)) (fun c s P Q row hs hg hr => hs)
                  (Below.refl _ _) ?round ?done ?stop
                case round =>
                  rintro l2 pre x Wr n0' hl2 hn0' hIr hpre -
                  obtain ⟨S, T, p1, p2, p3, sg, t1, t2, t3, n9, hl⟩ := ent_let x.1
                  obtain ⟨xe, ax, cx⟩ := x
                  dsimp only at hl
                  unfold encE
                  rw [hl.arr]
                  gi_wp2
                  refine ⟨(Below.refl _ _).alloc (Nat.le_refl _) _, ?_⟩
                  rintro W2 hI hsame -
                  have hp2 := hsame.heap (heap_alloc_new Wr (.cells #[.string S, .int .i64 p1, .int .i64 p2, .int .i64 p3, .int .i64 sg, .string T, .int .i64 t1, .int .i64 t2, .int .i64 t3, .slice ax n9 cx] 45))
                  obtain ⟨Bp, hBp⟩ : ∃ b, Wr.heap.size = b := ⟨_, rfl⟩
                  rw [hBp] at hp2 ⊢
                  have hmem : xe ∈ es.map Prod.fst := hpre.subset (by simp)
                  obtain ⟨hg1, hg2, hg3⟩ := more_get hsub.out HBE.out.ok HOK2.out HFT.out HFT2.out hmem
                  have hbI : Below w9.heap.size w9 W2 := HBC.out.trans (hI.mono HBC.out.size)
                  have hge := sget_any W2 _ T2 es2 lx2 mx2 (HSG2.out.below hbI) xe.pkg
                  rw [hl.s, ← hl.p.1, ← hl.p.2.1, ← hl.p.2.2] at hge
                  have c9 := cell_of_heap ((hbI.block _ (lt_of_heap HX9.out)).trans HX9.out) 0
                  have e60 := below_keeps hbI _ _ K60.out
                  have e61 := below_keeps hbI _ _ K61.out
                  have p0 := cell_of_heap hp2 0
                  have p1 := cell_of_heap hp2 1
                  have p2 := cell_of_heap hp2 2
                  have p3 := cell_of_heap hp2 3
                  have p4 := cell_of_heap hp2 4
                  have p5 := cell_of_heap hp2 5
                  have p6 := cell_of_heap hp2 6
                  have p7 := cell_of_heap hp2 7
                  have p8 := cell_of_heap hp2 8
                  have p9 := cell_of_heap hp2 9
                  have hha := fun W (hW : Below W2.heap.size W2 W) => rhas2_any W zAll _ st ((HREF.out.below hbI).below hW) xe.pkg
                  rw [hl.s, ← hl.p.1, ← hl.p.2.1, ← hl.p.2.2, hg3] at hha
                  obtain ⟨z, hz⟩ : ∃ z, z = (getE (es2.map Prod.fst) xe.pkg).1 := ⟨_, rfl⟩
                  have hgv : getE (es2.map Prod.fst) xe.pkg = (z, true) := Prod.ext hz.symm hg1
                  rw [← hz, ← hl.g] at hg2
                  have HI := Lib.hid hI; have HGE := Lib.hid hge; have HGV := Lib.hid hgv; have HHA := Lib.hid hha; have HP2 := Lib.hid hp2
                  clear hI hsame hIr hpre hmem hg1 hg3 hbI hge hha hz hgv hp2 hl hBp
                  have h1n : 1 ≤ 8 - 1 - 1 := by decide
                  gi_wp2
                  refine ⟨trivial, ?_⟩
                  refine (CallsIn.inRound l2 ((callsIn_wide (n := 5)).2 HGE.out)).mono ?_
                  intro e W3 hgp
                  obtain ⟨h3, az, cz, he, -⟩ := hgp
                  rw [HGV.out] at he
                  dsimp only at he
                  obtain ⟨S2, T2', q1, q2, q3, sz, o1, o2, o3, m9, hl⟩ := ent_let z
                  rw [hl.arr] at he
                  rw [← hl.g] at hg2
                  subst he
                  obtain ⟨W4, hW4, hb4, hx4, y1, y2⟩ := any_block W3 #[.string S2, .int .i64 q1, .int .i64 q2, .int .i64 q3, .int .i64 sz, .string T2', .int .i64 o1, .int .i64 o2, .int .i64 o3, .slice az m9 cz] 45
                  obtain ⟨bz, hbz⟩ : ∃ b, W3.heap.size = b := ⟨_, rfl⟩
                  rw [hbz] at hx4
                  have h24 := h3.trans (hb4.mono h3.size)
                  have f60 := below_keeps h24 _ _ e60
                  have f61 := below_keeps h24 _ _ e61
                  have z4 := cell_of_heap hx4 4
                  have j0 := below_keeps h24 _ _ p0
                  have j1 := below_keeps h24 _ _ p1
                  have j2 := below_keeps h24 _ _ p2
                  have j3 := below_keeps h24 _ _ p3
                  have j4 := below_keeps h24 _ _ p4
                  have HH4 := Lib.hid (HHA.out W4 h24)
                  have H24 := Lib.hid h24
                  clear h3 hb4 hx4 h24 e60 e61 c9 hl y1 y2 p0 p1 p2 p3 p4 p5 p6 p7 p8 p9
                  gi_wp2
                  refine ⟨trivial, ?_⟩
                  refine (CallsIn.inRound l2 ((callsIn_wide (n := 5)).2 HH4.out)).mono ?_
                  rintro e W5 ⟨rfl, h5⟩
                  have h25 := H24.out.trans (h5.mono H24.out.size)
                  have HB25 := Lib.hid h25
                  clear h5 h25
                  gi_wp2
                  exact ⟨(OnlyX.of_below HB25.out).rnd, HI.out.trans (HB25.out.mono HI.out.size)⟩
                case stop =>
                  rintro D c9 pre V hD hp hx hK
                  exact hx.elim
                case done =>
                  rintro D ys V hD hS hI hK
                  have hbV : Below w9.heap.size w9 V := HBC.out.trans (hI.mono HBC.out.size)
                  have hg4 := (hbV.block _ (lt_of_heap G49.out)).trans G49.out
                  have z0 := cell_of_heap hg4 0
                  have zf := frozen_of_heap hg4
                  have HBV := Lib.hid (HB9.out.trans (hbV.mono HB9.out.size)); have HG4 := Lib.hid hg4; have HK := Lib.hid hK; have HD := Lib.hid (show b4 < D from by have h1 := lt_of_heap G49.out; have h2 := HBC.out.size; omega)
                  clear hbV hg4 hK hS hI
                  go_wp2_with fail
                  have k0 := one_cellB (.bool true) HG4.out
                  have hset : (V.setCell ⟨b4, 0, none⟩ (.bool true)).heap[D]? = some (.deferred (some [])) := (Below.heap_setCell _ _ _ _ (by have := HD.out; simp; omega)).trans HK.out
                  have k1 : ((V.setCell ⟨b4, 0, none⟩ (.bool true)).putObj D (.deferred none)).cell? ⟨b4, 0, none⟩ = some (.bool true) := (World.cell?_of_block (World.putObj_heap_other (by have := HD.out; simp; omega))).trans k0
                  refine marks_ret1 (v := .bool true) rfl hset (by simp [results, Tryz.results5, go_sem, k1]) ⟨rfl, ?_⟩
                  have f2 := HBV.out.setCell (p := ⟨b4, 0, none⟩) HSZ.out.1 (.bool true)
                  exact f2.grown (grownBy_putObj' _ D _) f2.size (fun k e => by have := HD.out; have := HSZ.out; obtain rfl : D = k := Option.some.inj e; omega)
              · have hb2' : ((e2 : Int) == 0) = false := by simp; exact k2
                have z0 := cell_of_heap G49.out 0
                have zf := frozen_of_heap G49.out
                have r0 := one_cellB (.bool true) G49.out
                go_wp2_with fail
                refine marks_ret0 (v := .bool true) (by simp [results, Tryz.results5, go_sem, r0]) rfl ⟨rfl, ?_⟩
                first | exact (HB9.out).setCell (p := ⟨b4, 0, none⟩) HSZ.out.1 _ | (have hq := (HB9.out).setCell (p := ⟨b4, 0, none⟩) HSZ.out.1 (.bool true); rw [hb2e] at hq; exact hq)
            · have hb0 : ((e0 : Int) == 0) = false := by simp; exact k0
              have z0 := cell_of_heap G49.out 0
              have zf := frozen_of_heap G49.out
              have r0 := one_cellB (.bool true) G49.out
              go_wp2_with fail
              refine marks_ret0 (v := .bool true) (by simp [results, Tryz.results5, go_sem, r0]) rfl ⟨rfl, ?_⟩
              first | exact (HB9.out).setCell (p := ⟨b4, 0, none⟩) HSZ.out.1 _ | (have hq := (HB9.out).setCell (p := ⟨b4, 0, none⟩) HSZ.out.1 (.bool true); rw [hb2e] at hq; exact hq)
end Go.Proofs.YtaagkndhgicifaaGreat
