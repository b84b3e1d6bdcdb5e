/- DERIVED. Where nothing is answered, nothing holds: walked. (Printed by a program.) -/
import Derived.Test.YtnbeklmjinnbaaaGreatSolMs0
namespace Go.Proofs.YtnbeklmjinnbaaaGreat
open Go.RowKit Go.Shelf
set_option linter.unusedVariables false
set_option linter.unusedSimpArgs false
set_option maxRecDepth 100000

set_option maxHeartbeats 32000000 in
theorem misses_any (w : World) (cs : List Value) (x : Cs) (hx : CaseAt w cs x) :
    Calls Tryz.prog 5 #[.agg cs.toArray] w (fun e w' => e = .returned (.bool true) ∧ Below w.heap.size w w') := by
  have hbg := fun W (hW : Below w.heap.size w W) => begun_any W cs x (hx.below hW)
  obtain ⟨v0, v1, v2, rfl, hsc, hpl, hle, hmo, hmn, hlw⟩ := hx
  obtain ⟨a0, c0, rfl, -⟩ := hsc
  obtain ⟨a5, c5, rfl, -⟩ := hle
  obtain ⟨a6, c6, rfl, -⟩ := hmo
  replace hbg : ∀ W, Below w.heap.size w W → Calls _ _ #[.agg #[.slice a0 x.script.length c0, strV x.p.1, .int .i64 x.p.2.1, .int .i64 x.p.2.2.1, .int .i64 x.p.2.2.2, .slice a5 x.less.length c5, .slice a6 x.more.length c6, .int .i64 x.left]] W _ := hbg
  show Calls _ _ #[.agg #[.slice a0 x.script.length c0, strV x.p.1, .int .i64 x.p.2.1, .int .i64 x.p.2.2.1, .int .i64 x.p.2.2.2, .slice a5 x.less.length c5, .slice a6 x.more.length c6, .int .i64 x.left]] _ _
  obtain ⟨T, -, hT, -, -⟩ := strV_is x.p.1
  rw [hT] at hbg ⊢
  obtain ⟨n0, hn0⟩ : ∃ y, y = x.script.length := ⟨_, rfl⟩
  obtain ⟨n5, hn5⟩ : ∃ y, y = x.less.length := ⟨_, rfl⟩
  obtain ⟨n6, hn6⟩ : ∃ y, y = x.more.length := ⟨_, rfl⟩
  obtain ⟨p1, hp1⟩ : ∃ y, y = x.p.2.1 := ⟨_, rfl⟩
  obtain ⟨p2, hp2⟩ : ∃ y, y = x.p.2.2.1 := ⟨_, rfl⟩
  obtain ⟨p3, hp3⟩ : ∃ y, y = x.p.2.2.2 := ⟨_, rfl⟩
  obtain ⟨lf, hlf⟩ : ∃ y, y = x.left := ⟨_, rfl⟩
  rw [← hn0, ← hn5, ← hn6, ← hp1, ← hp2, ← hp3, ← hlf] at hbg ⊢
  obtain ⟨w0, hw0, hb0, hx0, y1, y2⟩ := any_block w #[.slice a0 n0 c0, .string T, .int .i64 p1, .int .i64 p2, .int .i64 p3, .slice a5 n5 c5, .slice a6 n6 c6, .int .i64 lf] 30
  have HBG := Lib.hid hbg; have HB0 := Lib.hid hb0; have G10 := Lib.hid hx0; have HT := Lib.hid (And.intro hT (And.intro hp1 (And.intro hp2 hp3)))
  clear hbg hb0 hx0 hT hn0 hn5 hn6 hp1 hp2 hp3 hlf hpl hmn hlw y1 y2
  go_enter Tryz.func5, Tryz.ntmps5
  go_wp2_with fail
  refine (alive_any _).mono ?_
  rintro e w1 ⟨rfl, h1⟩
  have G11 := Lib.hid ((h1.block _ (lt_of_heap G10.out)).trans G10.out)
  have HB1 := Lib.hid (HB0.out.trans (h1.mono HB0.out.size))
  clear h1
  have u0 := cell_of_heap G11.out 0
  have u1 := cell_of_heap G11.out 1
  have u2 := cell_of_heap G11.out 2
  have u3 := cell_of_heap G11.out 3
  have u4 := cell_of_heap G11.out 4
  have u5 := cell_of_heap G11.out 5
  have u6 := cell_of_heap G11.out 6
  have u7 := cell_of_heap G11.out 7
  go_wp2_with fail
  refine (HBG.out _ HB1.out).mono ?_
  rintro e w2 ⟨h2, B, a1, n1, c1, a2, n2, c2, ap, np, cp, ok, rfl, hok⟩
  obtain ⟨w3, hw3, hb3, hx3, y1, y2⟩ := any_block w2 #[.slice a1 n1 c1, .slice a2 n2 c2] 35
  obtain ⟨b4, hb4⟩ : ∃ b, w2.heap.size = b := ⟨_, rfl⟩
  rw [hb4] at hx3
  have h23 := h2.trans (hb3.mono h2.size)
  have G13 := Lib.hid ((h23.block _ (lt_of_heap G11.out)).trans G11.out)
  have G43 := Lib.hid hx3; have HB3 := Lib.hid (HB1.out.trans (h23.mono HB1.out.size)); have H23 := Lib.hid hb3; have HOK := Lib.hid hok
  clear h2 hb3 hx3 h23 hok y1 y2 u0 u1 u2 u3 u4 u5 u6 u7
  have u0 := cell_of_heap G13.out 0
  have u1 := cell_of_heap G13.out 1
  have u2 := cell_of_heap G13.out 2
  have u3 := cell_of_heap G13.out 3
  have u4 := cell_of_heap G13.out 4
  have u5 := cell_of_heap G13.out 5
  have u6 := cell_of_heap G13.out 6
  have u7 := cell_of_heap G13.out 7
  have s0 := cell_of_heap G43.out 0
  have s1 := cell_of_heap G43.out 1
  cases ok
  · go_wp2_with fail
    go_ret
    exact ⟨rfl, HB3.out⟩
  by_cases hl : 400 < lf
  · go_wp2_with fail
    go_ret
    exact ⟨rfl, HB3.out⟩
  obtain ⟨st, pool, htwo, hrow, hpl⟩ := HOK.out rfl
  have hP := (hrow.below H23.out).all (by omega)
  have TWO := Lib.hid (htwo.below H23.out); have HPOOL := Lib.hid hP; have HROW := Lib.hid (hrow.below H23.out); have HPL := Lib.hid hpl
  clear htwo hrow hP hpl
  have hs := fun W (hW : Below w3.heap.size w3 W) => (TWO.out.below hW).solve (HPOOL.out.below hW) x.p lf (by omega)
  rw [HT.out.1, ← HT.out.2.1, ← HT.out.2.2.1, ← HT.out.2.2.2] at hs
  have hlen := solveT_len (st := st) (p := x.p) (pool := pool) (show lf ≤ 2000 by omega)
  obtain ⟨res, hres⟩ : ∃ r, r = solveT st x.p pool lf := ⟨_, rfl⟩
  rw [← hres] at hs hlen
  obtain ⟨⟨t, c⟩, m, e0⟩ := res
  obtain ⟨t1, ht1⟩ : ∃ y, t.2.1 = y := ⟨_, rfl⟩
  obtain ⟨t2, ht2⟩ : ∃ y, t.2.2.1 = y := ⟨_, rfl⟩
  obtain ⟨t3, ht3⟩ : ∃ y, t.2.2.2 = y := ⟨_, rfl⟩
  have Hsn : ∀ W, Below w3.heap.size w3 W → Calls _ _ _ W (fun e w' => ∃ (s : ByteArray) (a : Option Addr) (n k : Nat), n = c.length ∧ strV t.1 = .string s ∧ e = .returned (.tuple #[.agg #[.string s, .int .i64 t1, .int .i64 t2, .int .i64 t3, .slice a n k], .int .i64 m, .int .i64 e0]) ∧ ownsC w' W.heap.size 26 4 (.slice a n k) c.length (c.flatMap pkL) ∧ Below W.heap.size W w') := fun W hW => (hs W hW).mono (fun e w' h => by obtain ⟨s, a, n, k, h1, h2, h3, h4, h5⟩ := h.shape; rw [ht1, ht2, ht3] at h3; exact ⟨s, a, n, k, h1, h2, h3, h4, h5⟩)
  have hms := fun (he : e0 = 12) => solve_misses (by rw [he] at hres; exact hres.symm)
  have hall := fun W (hW : Below w3.heap.size w3 W) => rall_any W zAll _ st (TWO.out.below hW).ref (by have := TWO.out.few; omega) (by have := TWO.out.few; omega)
  have hin := fun W (hW : Below w3.heap.size w3 W) q => rin2_any W zAll _ pool (HPOOL.out.below hW) q
  have hrc := fun W (hW : Below w3.heap.size w3 W) => rrec_any W zAll _ st (TWO.out.below hW).ref x.p
  have hft := fun W (hW : Below w3.heap.size w3 W) v0 v1 d (hd : DepAt zAll W v0 v1 d) => rfits_any W zAll _ st (TWO.out.below hW).ref (by have := TWO.out.few; omega) (by have := TWO.out.few; omega) zAll v0 v1 d hd
  have hh := fun W (hW : Below w3.heap.size w3 W) t2 c2 vc (hc : PkgsAt zAll W vc c2) (hl : c2.length ≤ 100000) => rholds_any W _ st (TWO.out.below hW).ref x.p _ pool (HPOOL.out.below hW) t2 c2 vc hc hl
  rw [HT.out.1, ← HT.out.2.1, ← HT.out.2.2.1, ← HT.out.2.2.2] at hrc hh
  have HS := Lib.hid Hsn; have HMS := Lib.hid hms; have HALL := Lib.hid hall; have HIN := Lib.hid hin; have HRC := Lib.hid hrc; have HFT := Lib.hid hft; have HH := Lib.hid hh; have HFEW := Lib.hid TWO.out.few; have HLEN := Lib.hid (show c.length ≤ 2000 from hlen); have HTN := Lib.hid (And.intro ht1 (And.intro ht2 ht3))
  clear hs Hsn hms hall hin hrc hft hh hlen hres ht1 ht2 ht3
  have HC3 := Lib.hid (Below.refl w3.heap.size w3)
  go_wp2_with fail
  refine (HS.out _ HC3.out).mono ?_
  intro e v5 hsp
  obtain ⟨sA, aA, nA, kA, hnA, hsA, rfl, hoA, h4⟩ := hsp
  have hpA := (pkgs_ownsC hoA rfl (by have := HLEN.out; omega)).keep (Z' := zAll) ⟨fun _ _ _ => trivial, Nat.le_refl _, fun _ _ _ h => h⟩
  obtain ⟨w5, hw5, hbw, hx5, y1, y2⟩ := any_block v5 #[.string sA, .int .i64 t1, .int .i64 t2, .int .i64 t3, .slice aA nA kA] 39
  obtain ⟨b5, hb5⟩ : ∃ b, v5.heap.size = b := ⟨_, rfl⟩
  rw [hb5] at hx5
  have h45 := h4.trans (hbw.mono h4.size)
  have HW35 := Lib.hid (show w3.heap.size ≤ b5 by rw [← hb5]; exact h4.size)
  have HZ5 := Lib.hid (show w3.heap.size ≤ b5 by rw [← hb5]; exact Nat.le_trans HC3.out.size h4.size)
  clear u0 u1 u2 u3 u4 u5 u6 u7 s0 s1
  have G15 := Lib.hid ((h45.block _ (lt_of_heap G13.out)).trans G13.out); have G45 := Lib.hid ((h45.block _ (lt_of_heap G43.out)).trans G43.out); have HC5 := Lib.hid (HC3.out.trans (h45.mono HC3.out.size)); have HB5 := Lib.hid (HB3.out.trans (h45.mono HB3.out.size))
  have RA5 := Lib.hid hx5; have HPA5 := Lib.hid (hpA.below hbw); have HSA := Lib.hid hsA; have HOA5 := Lib.hid (ownsC_below hoA hbw); have HNA := Lib.hid hnA
  clear hpA hoA hsA hnA h4 hbw hx5 h45 y1 y2
  have u0 := cell_of_heap G15.out 0
  have u1 := cell_of_heap G15.out 1
  have u2 := cell_of_heap G15.out 2
  have u3 := cell_of_heap G15.out 3
  have u4 := cell_of_heap G15.out 4
  have u5 := cell_of_heap G15.out 5
  have u6 := cell_of_heap G15.out 6
  have u7 := cell_of_heap G15.out 7
  have s0 := cell_of_heap G45.out 0
  have s1 := cell_of_heap G45.out 1
  have ra0 := cell_of_heap RA5.out 0
  have ra1 := cell_of_heap RA5.out 1
  have ra2 := cell_of_heap RA5.out 2
  have ra3 := cell_of_heap RA5.out 3
  have ra4 := cell_of_heap RA5.out 4
  by_cases he : e0 = 12
  · subst he
    obtain ⟨hrq, hno⟩ := HMS.out rfl
    have HRQ := Lib.hid hrq; have HNO := Lib.hid hno
    clear hrq hno
    go_wp2_with fail
    refine (HALL.out _ HC5.out).mono ?_
    rintro e w6 ⟨vA, rfl, hrow, h6⟩
    obtain ⟨al, hal⟩ : ∃ l, l = st.all := ⟨_, rfl⟩
    rw [← hal] at hrow
    have hnA : al.length ≤ 40 := by rw [hal]; exact allLen HFEW.out
    have hP := hrow.all (by omega)
    obtain ⟨aAl, cAl, rfl⟩ := hrow.form
    obtain ⟨nA', hnA'⟩ : ∃ n, n = al.length := ⟨_, rfl⟩
    rw [← hnA'] at hP hnA ⊢
    clear ra0 ra1 ra2 ra3 ra4
    clear u0 u1 u2 u3 u4 u5 u6 u7 s0 s1
    have G16 := Lib.hid ((h6.block _ (lt_of_heap G15.out)).trans G15.out); have G46 := Lib.hid ((h6.block _ (lt_of_heap G45.out)).trans G45.out); have HC6 := Lib.hid (HC5.out.trans (h6.mono HC5.out.size)); have HB6 := Lib.hid (HB5.out.trans (h6.mono HB5.out.size))
    have HAL := Lib.hid hP; have HNL := Lib.hid hnA'
    clear h6 hrow hP hal hnA'
    obtain ⟨iP, hiP, hzP0, hzP1, hzP2⟩ := info_parts infoPkg
    have HI := Lib.hid (And.intro hiP (And.intro hzP0 (And.intro hzP1 hzP2)))
    obtain ⟨iS, hiS, hzS0, hzS1, hzS2⟩ := info_parts infoStr
    have HIS := Lib.hid (And.intro hiS (And.intro hzS0 (And.intro hzS1 hzS2)))
    obtain ⟨iK, hiK, hzK0, hzK1, hzK2⟩ := info_parts infoKd
    have HIK := Lib.hid (And.intro hiK (And.intro hzK0 (And.intro hzK1 hzK2)))
    clear hiP hzP0 hzP1 hzP2 hiS hzS0 hzS1 hzS2 hiK hzK0 hzK1 hzK2
    go_wp2_with fail
    go_loopw [10, 11, 60] (fun y z i wr => ∃ (k n : Nat) (aN : Option Addr) (cN : Nat) (aK : Option Addr) (cK : Nat) (ns : List (List UInt8)) (ks : List Value) (Ls : List (List Pk)), y = .slice aN n cN ∧ z = .slice aK n cK ∧ i = .int .i64 k ∧ k ≤ nA' ∧ n ≤ k ∧ Hid (Kd w6.heap.size wr (.slice aN n cN) (.slice aK n cK) n n k ns ks Ls) ∧ Hid (Below w6.heap.size w6 wr)) (fun _ _ i _ => nA' - (intOf i).toNat)
    case atStart => exact ⟨0, 0, none, 0, none, 0, [], [], [], rfl, rfl, rfl, Nat.zero_le _, Nat.le_refl _, Lib.hid (Kd.nil (Nat.le_refl _)), Lib.hid (Below.refl _ _)⟩
    case round =>
      obtain ⟨k, n, aN, cN, aK, cK, ns, ks, Ls, rfl, rfl, rfl, hk, hnk, hkd, hbw⟩ := hrel
      by_cases hlt : k < nA'
      · obtain ⟨q, hq⟩ : ∃ q, al[k]? = some q := ⟨_, List.getElem?_eq_getElem (by rw [← HNL.out]; exact hlt)⟩
        obtain ⟨bP, oP, S, rfl, hS, c0, c1', c2', c3'⟩ := (HAL.out.below hbw.out).cells hq
        obtain ⟨q1, hq1⟩ : ∃ y, y = q.2.1 := ⟨_, rfl⟩
        obtain ⟨q2, hq2⟩ : ∃ y, y = q.2.2.1 := ⟨_, rfl⟩
        obtain ⟨q3, hq3⟩ : ∃ y, y = q.2.2.2 := ⟨_, rfl⟩
        rw [← hq1] at c1'; rw [← hq2] at c2'; rw [← hq3] at c3'
        obtain ⟨w7, hw7, hb7, hx7, y1, y2⟩ := any_block wr #[.string S, .int .i64 q1, .int .i64 q2, .int .i64 q3] 26
        obtain ⟨b7, hb7e⟩ : ∃ b, wr.heap.size = b := ⟨_, rfl⟩
        rw [hb7e] at hx7
        have hb67 := hbw.out.trans (hb7.mono hbw.out.size)
        have hi := HIN.out w7 (HC6.out.trans (hb67.mono HC6.out.size)) q
        rw [hS, ← hq1, ← hq2, ← hq3] at hi
        obtain ⟨ib, hib⟩ : ∃ b, b = inP pool q := ⟨_, rfl⟩
        rw [← hib] at hi
        have HSQ := Lib.hid (And.intro hS (And.intro hq1 (And.intro hq2 hq3))); have HI7 := Lib.hid hi; have HKD7 := Lib.hid (hkd.out.below hb7); have GQ7 := Lib.hid hx7; have HB67 := Lib.hid hb67
        clear hq hS hq1 hq2 hq3 hi hib hb7 hx7 hb67 y1 y2
        have k0 := cell_of_heap GQ7.out 0
        have k1 := cell_of_heap GQ7.out 1
        have k2 := cell_of_heap GQ7.out 2
        have k3 := cell_of_heap GQ7.out 3
        go_wp2_with fail
        refine HI7.out.mono ?_
        rintro e w8 ⟨rfl, h8⟩
        have HKD8 := Lib.hid (HKD7.out.below h8); have GQ8 := Lib.hid ((h8.block _ (lt_of_heap GQ7.out)).trans GQ7.out); have HB68 := Lib.hid (HB67.out.trans (h8.mono HB67.out.size))
        clear h8 k0 k1 k2 k3 c0 c1' c2' c3'
        cases ib
        · go_wp2_with fail
          go_roundw
          case rel => exact ⟨k + 1, n, aN, cN, aK, cK, ns, ks, Ls, rfl, rfl, by go_num, hlt, by omega, Lib.hid (HKD8.out.more (Nat.le_succ k)), HB68⟩
          case measure => simp [intOf]; omega
        · rcases n with _ | n'
          · have k0 := cell_of_heap GQ8.out 0
            have k1 := cell_of_heap GQ8.out 1
            have k2 := cell_of_heap GQ8.out 2
            have k3 := cell_of_heap GQ8.out 3
            go_wp2_with fail
            go_quiet (fail)
            obtain ⟨W17, hW17⟩ : ∃ W, W = w8.drewN nq := ⟨_, rfl⟩
            rw [← hW17]
            have hkw := HKD8.out.below (below_drewN nq w8)
            rw [← hW17] at hkw
            have HKDw := Lib.hid hkw; have GQw := Lib.hid (show W17.heap[b7]? = some (.cells #[.string S, .int .i64 q1, .int .i64 q2, .int .i64 q3] 26 (0, 0)) by rw [hW17]; exact GQ8.out); have HBw := Lib.hid (show Below w6.heap.size w6 W17 by rw [hW17]; exact below_drewN_of HB68.out)
            clear hkw
            clear hW17 k0 k1 k2 k3
            obtain ⟨wS, hwS, hbS, hxS, y1, y2⟩ := any_block W17 #[.string S] 9
            obtain ⟨bS, hbSe⟩ : ∃ b, W17.heap.size = b := ⟨_, rfl⟩
            rw [hbSe] at hxS
            have HSRCS := Lib.hid (src_one Tryz.underlying47 rfl hxS); have HKDb := Lib.hid (HKDw.out.below hbS); have GQb := Lib.hid ((hbS.block _ (lt_of_heap GQw.out)).trans GQw.out); have HBb := Lib.hid (HBw.out.trans (hbS.mono HBw.out.size))
            clear hbS hxS y1 y2
            have k0 := cell_of_heap GQw.out 0
            have k1 := cell_of_heap GQw.out 1
            have k2 := cell_of_heap GQw.out 2
            have k3 := cell_of_heap GQw.out 3
            go_wp2_with (first | (at_builtin; refine wpList_append_srcs rfl (.tmp 82) (.tmp 85) 47 47 rfl w6.heap.size 9 iS _ 1 16 Tryz.underlying47 HIS.out.1 HIS.out.2.1 HIS.out.2.2.1 HIS.out.2.2.2 rfl (by decide) (.slice aN (0) cN) rfl (0) (ns.map strV) HKDb.out.names (.slice (some ⟨bS, 0, none⟩) 1 1) rfl 1 [.string S] HSRCS.out (by unfold maxLen; omega) (by omega) HKDb.out.low ?_; intro aN1 cN1 wN hown hgrow _ _; have hkdN := HKDb.out.addN (q := q.1) (by rw [HSQ.out.1]; exact hown) hgrow; have hbN := below_grownR HBb.out hgrow (fun g hg => (row_base HKDb.out.names g hg).1); have hqN := (hgrow.block b7 (lt_of_heap GQb.out) (fun e => by obtain ⟨c2, h2⟩ := row_kindR HKDb.out.names b7 e.symm; exact cells_ne GQb.out h2 (by decide))).trans GQb.out; clear hown hgrow; obtain ⟨wK, hwK, hbK, hxK, y1, y2⟩ := any_block wN #[.slice none 0 0] 28; obtain ⟨bK, hbKe⟩ : ∃ b, wN.heap.size = b := ⟨_, rfl⟩; rw [hbKe] at hxK; have HSRCK := Lib.hid (src_one Tryz.underlying48 rfl hxK); have HKDK := Lib.hid (hkdN.below hbK); have HBK := Lib.hid (hbN.trans (hbK.mono hbN.size)); have GQK := Lib.hid ((hbK.block _ (lt_of_heap hqN)).trans hqN); clear hkdN hbN hqN hbK hxK y1 y2) | (at_builtin; refine wpList_append_srcs rfl (.tmp 87) (.tmp 88) 48 48 rfl w6.heap.size 28 iK _ 1 24 Tryz.underlying48 HIK.out.1 HIK.out.2.1 HIK.out.2.2.1 HIK.out.2.2.2 rfl (by decide) (.slice aK (0) cK) rfl (0) ks HKDK.out.kinds (.slice (some ⟨bK, 0, none⟩) 1 1) rfl 1 [.slice none 0 0] HSRCK.out (by unfold maxLen; omega) (by omega) HKDK.out.low ?_; intro aK1 cK1 wX hown hgrow _ _; have HKDX := Lib.hid (HKDK.out.addK hown hgrow); have HBX := Lib.hid (below_grownR HBK.out hgrow (fun g hg => (row_base HKDK.out.kinds g hg).1)); have GQX := Lib.hid ((hgrow.block b7 (lt_of_heap GQK.out) (fun e => by obtain ⟨c2, h2⟩ := row_kindR HKDK.out.kinds b7 e.symm; exact cells_ne GQK.out h2 (by decide))).trans GQK.out); clear hown hgrow) | fail)
            clear k0 k1 k2 k3
            obtain ⟨gK, xL, L, kL, eK, hks, hLs, hcl0, ⟨curK, hgK⟩, hfl⟩ := HKDX.out.cell (k := 0) (by omega)
            subst eK
            obtain ⟨nL, hnL⟩ : ∃ n, n = L.length := ⟨_, rfl⟩
            rw [← hnL] at hks hcl0 hfl
            have HKS := Lib.hid (And.intro hks (And.intro hLs hnL))
            go_upto_region 21 with fail
            refine UpV.start [(8, fun W : World => W.cell? ⟨gK, 0, none⟩ = some (.slice xL nL kL)), (7, fun W : World => W.cell? ⟨b7, 0, none⟩ = some (.string S) ∧ W.cell? ⟨b7, 1, none⟩ = some (.int .i64 q1) ∧ W.cell? ⟨b7, 2, none⟩ = some (.int .i64 q2) ∧ W.cell? ⟨b7, 3, none⟩ = some (.int .i64 q3))] (by kernel_rfl) ?_
            obtain ⟨Wd, hWd⟩ : ∃ W, W = wX.drew := ⟨_, rfl⟩
            rw [← hWd]
            have hkd0 := HKDX.out.below (Below.refl _ wX).drew
            rw [← hWd] at hkd0
            have hq7 : Wd.heap[b7]? = some (.cells #[.string S, .int .i64 q1, .int .i64 q2, .int .i64 q3] 26 (0, 0)) := by rw [hWd]; exact GQX.out
            have hbd : Below w6.heap.size w6 Wd := by rw [hWd]; exact HBX.out.drew
            have hcl1 : Wd.cell? ⟨gK, 0, none⟩ = some (.slice xL nL kL) := by rw [hWd]; exact hcl0
            have hgK1 : Wd.heap[gK]? = some (.cells curK 28 (0, 0)) := by rw [hWd]; exact hgK
            have HKD0 := Lib.hid hkd0; have HQ7 := Lib.hid hq7; have HBD0 := Lib.hid hbd; have HGK := Lib.hid hgK1
            have hA0 : ∀ q ∈ ([(8, fun W : World => W.cell? ⟨gK, 0, none⟩ = some (.slice xL nL kL)), (7, fun W : World => W.cell? ⟨b7, 0, none⟩ = some (.string S) ∧ W.cell? ⟨b7, 1, none⟩ = some (.int .i64 q1) ∧ W.cell? ⟨b7, 2, none⟩ = some (.int .i64 q2) ∧ W.cell? ⟨b7, 3, none⟩ = some (.int .i64 q3))] : List (Nat × (World → Prop))), q.2 Wd := by
              intro q hq
              rcases List.mem_cons.1 hq with rfl | hq
              · exact hcl1
              · obtain rfl := List.mem_singleton.1 hq
                exact ⟨cell_of_heap HQ7.out 0, cell_of_heap HQ7.out 1, cell_of_heap HQ7.out 2, cell_of_heap HQ7.out 3⟩
            clear hkd0 hq7 hbd hgK1 hgK hcl0 hks hLs hnL hWd
            refine UpV.takeP 0 (v := .slice (some ⟨gK, 0, none⟩) (0 + 1) cK1) rfl (by kernel_rfl) (by kernel_rfl) (by kernel_rfl) (by kernel_rfl) (fun _ _ _ h => h) (Or.inl ⟨by rfl, ?_⟩) (owe_all hA0) ?_
            · intro w hSw; first | rfl | (go_simp; done)
            try simp only [Act.put, List.setIfInBounds_toArray, List.set_cons_zero, List.set_cons_succ, List.getElem_toArray, List.getElem_cons_zero, List.getElem_cons_succ]
            refine UpV.takeP 1 (v := .int .i64 0) rfl (by kernel_rfl) (by kernel_rfl) (by kernel_rfl) (by kernel_rfl) (fun _ _ _ h => h) (Or.inl ⟨by rfl, ?_⟩) (owe_all hA0) ?_
            · intro w hSw; first | rfl | (go_simp; done)
            try simp only [Act.put, List.setIfInBounds_toArray, List.set_cons_zero, List.set_cons_succ, List.getElem_toArray, List.getElem_cons_zero, List.getElem_cons_succ]
            refine UpV.takeP 2 (v := .slice (some ⟨gK, 0, none⟩) (0 + 1) cK1) rfl (by kernel_rfl) (by kernel_rfl) (by kernel_rfl) (by kernel_rfl) (fun _ _ _ h => h) (Or.inl ⟨by rfl, ?_⟩) (owe_all hA0) ?_
            · intro w hSw; first | rfl | (go_simp; done)
            try simp only [Act.put, List.setIfInBounds_toArray, List.set_cons_zero, List.set_cons_succ, List.getElem_toArray, List.getElem_cons_zero, List.getElem_cons_succ]
            refine UpV.takeP 3 (v := .int .i64 0) rfl (by kernel_rfl) (by kernel_rfl) (by kernel_rfl) (by kernel_rfl) (fun _ _ _ h => h) (Or.inl ⟨by rfl, ?_⟩) (owe_all hA0) ?_
            · intro w hSw; first | rfl | (go_simp; done)
            try simp only [Act.put, List.setIfInBounds_toArray, List.set_cons_zero, List.set_cons_succ, List.getElem_toArray, List.getElem_cons_zero, List.getElem_cons_succ]
            refine UpV.takeP 4 (v := .pointer (some ⟨gK, 0, none⟩)) rfl (by kernel_rfl) (by kernel_rfl) (by kernel_rfl) (by kernel_rfl) (fun _ _ _ h => h) (Or.inl ⟨by rfl, ?_⟩) (owe_all hA0) ?_
            · intro w hSw; first | rfl | (go_simp; done) | (go_simp; intro h; exact absurd (h (by omega)) (by omega)) | (go_simp; omega)
            try simp only [Act.put, List.setIfInBounds_toArray, List.set_cons_zero, List.set_cons_succ, List.getElem_toArray, List.getElem_cons_zero, List.getElem_cons_succ]
            refine UpV.take 5 8 (v := .slice xL nL kL) rfl (List.mem_cons_self ..) (by kernel_rfl) (by kernel_rfl) (by kernel_rfl) (by kernel_rfl) (by kernel_rfl) (fun _ _ _ h => h) (Or.inl ⟨by rfl, ?_⟩) (owe_all hA0) ?_
            · intro w hSw; have s0 : w.cell? ⟨gK, 0, none⟩ = some (.slice xL nL kL) := hSw; go_simp
            try simp only [Act.put, List.setIfInBounds_toArray, List.set_cons_zero, List.set_cons_succ, List.getElem_toArray, List.getElem_cons_zero, List.getElem_cons_succ]
            refine UpV.take 6 7 (v := .agg #[.string S, .int .i64 q1, .int .i64 q2, .int .i64 q3]) rfl (List.mem_cons_of_mem _ (List.mem_cons_self ..)) (by kernel_rfl) (by kernel_rfl) (by kernel_rfl) (by kernel_rfl) (by kernel_rfl) (fun _ _ _ h => h) (Or.inl ⟨by rfl, ?_⟩) (owe_all hA0) ?_
            · intro w hSw; obtain ⟨s0, s1, s2, s3⟩ := hSw; go_simp
            try simp only [Act.put, List.setIfInBounds_toArray, List.set_cons_zero, List.set_cons_succ, List.getElem_toArray, List.getElem_cons_zero, List.getElem_cons_succ]
            refine UpV.one 7 (by kernel_rfl) rfl ?_
            intro K hK
            obtain ⟨w9, hw9, hb9, hx9, z1, z2⟩ := any_block Wd #[.string S, .int .i64 q1, .int .i64 q2, .int .i64 q3] 26
            obtain ⟨b9, hb9e⟩ : ∃ b, Wd.heap.size = b := ⟨_, rfl⟩
            rw [hb9e] at hx9
            have hkd9 := HKD0.out.below hb9
            have hrL := hkd9.each _ _ _ HKS.out.1 HKS.out.2.1
            have hsrc9 := src_pk (q := q) HSQ.out.1 (by rw [← HSQ.out.2.1, ← HSQ.out.2.2.1, ← HSQ.out.2.2.2]; exact hx9)
            have hb69 := HBD0.out.trans (hb9.mono HBD0.out.size)
            have c9 := below_keeps hb9 _ _ hcl1
            have g9 := (hb9.block _ (lt_of_heap HGK.out)).trans HGK.out
            unfold PkRow at hrL
            rw [← HKS.out.2.2] at hrL
            have HKD9 := Lib.hid hkd9; have HRL := Lib.hid hrL; have HSRC9 := Lib.hid hsrc9; have HB69 := Lib.hid hb69; have HG9 := Lib.hid g9
            clear hkd9 hrL hsrc9 hb69 hb9 hx9 z1 z2 g9
            try simp only [List.getElem_toArray, List.getElem_cons_zero, List.getElem_cons_succ]
            try go_simp
            try rw [hb9e]
            try rw [hw9]
            refine hK.out _ _ (owe2 (fun _ => c9) (fun h => by cases h)) ?_
            clear hK K hA0
            try simp only [Act.put, List.setIfInBounds_toArray, List.set_cons_zero, List.set_cons_succ, List.getElem_toArray, List.getElem_cons_zero, List.getElem_cons_succ]
            refine UpV.one 8 (by kernel_rfl) rfl ?_
            intro K hK
            refine step_append_srcs rfl (.tmp 97) (.tmp 99) 28 28 rfl w6.heap.size 26 iP _ 4 40 Tryz.underlying28 HI.out.1 HI.out.2.1 HI.out.2.2.1 HI.out.2.2.2 rfl (by decide) (.slice xL nL kL) (by first | rfl | (simp [Act.eval]; done) | (simp [Act.eval, Act.put]; done)) nL (L.flatMap pkL) HRL.out (.slice (some ⟨b9, 0, none⟩) 1 1) (by first | rfl | (simp [Act.eval]; done) | (simp [Act.eval, Act.put]; done)) 1 (pkL q) HSRC9.out (by unfold maxLen; omega) (by omega) HB69.out.size ?_
            intro aA cA wA hown hgrow _ hblk
            have hrow := PkRow.push HKS.out.2.2 hown
            have hput := HKD9.out.put (k := 0) (by omega) (by rw [HKS.out.2.2] at *; exact HKS.out.1) HKS.out.2.1 hrow hgrow hblk
            have hbA := below_grownR HB69.out hgrow (fun g hg => (row_base HRL.out g hg).1)
            have hgA : wA.heap[gK]? = some (.cells curK 28 (0, 0)) := (hgrow.block gK (lt_of_heap HG9.out) (fun e => by obtain ⟨c2, h2⟩ := row_kindR HRL.out gK e.symm; exact cells_ne HG9.out h2 (by decide))).trans HG9.out
            have cA0 : wA.cell? ⟨gK, 0, none⟩ = some (.slice xL nL kL) := by rw [World.cell?_of_block (a := ⟨gK, 0, none⟩) (hgA.trans HG9.out.symm)]; exact c9
            have fA := frozen_of_heap hgA
            have HPUT := Lib.hid hput; have HBA := Lib.hid hbA; have HGA := Lib.hid hgA
            clear hown hgrow hblk hrow hput hbA hgA
            refine hK.out _ _ (owe2 (fun h => by cases h) (fun h => by cases h)) ?_
            clear hK K
            try simp only [Act.put, List.setIfInBounds_toArray, List.set_cons_zero, List.set_cons_succ, List.getElem_toArray, List.getElem_cons_zero, List.getElem_cons_succ]
            refine UpV.takeP 9 (v := .pointer (some ⟨gK, 0, none⟩)) rfl (by kernel_rfl) (by kernel_rfl) (by kernel_rfl) (by kernel_rfl) (fun _ _ _ h => h) (Or.inl ⟨by rfl, ?_⟩) (owe2 (fun h => by cases h) (fun h => by cases h)) ?_
            · intro w hSw; first | rfl | (go_simp; done) | (go_simp; intro h; exact absurd (h (by omega)) (by omega)) | (go_simp; omega)
            try simp only [Act.put, List.setIfInBounds_toArray, List.set_cons_zero, List.set_cons_succ, List.getElem_toArray, List.getElem_cons_zero, List.getElem_cons_succ]
            refine UpV.one 10 (by kernel_rfl) rfl ?_
            intro K hK
            try simp only [List.getElem_toArray, List.getElem_cons_zero, List.getElem_cons_succ]
            try go_simp
            refine hK.out _ _ (owe2 (fun h => by cases h) (fun h => by cases h)) ?_
            clear hK K
            try simp only [Act.put, List.setIfInBounds_toArray, List.set_cons_zero, List.set_cons_succ, List.getElem_toArray, List.getElem_cons_zero, List.getElem_cons_succ]
            refine UpV.done (by kernel_rfl) ?_
            have HBW := Lib.hid (below_set HBA.out (show w6.heap.size ≤ gK from by have h1 := row_base HPUT.out.kinds gK rfl; exact h1.1) 0 (.slice aA (nL + 1) cA))
            go_wp2_with fail
            go_roundw
            case rel => exact ⟨k + 1, _, aN1, cN1, some ⟨gK, 0, none⟩, cK1, _, _, _, rfl, rfl, by go_num, hlt, by omega, HPUT, HBW⟩
            case measure => simp [intOf]; omega
          · obtain ⟨gN, y, SN, eN, hy, hSN, cN0⟩ := HKD8.out.name (k := n') (by omega)
            subst eN
            obtain ⟨S', -, hS', hS2, -⟩ := strV_is q.1
            obtain rfl : S = S' := by have h1 := HSQ.out.1; rw [hS'] at h1; injection h1 with h1; exact h1.symm
            obtain ⟨SY, -, hSY, hSY2, -⟩ := strV_is y
            obtain rfl : SN = SY := by rw [hSN] at hSY; injection hSY
            have hee := str_eqb SN S y q.1 hSY2 hS2
            obtain ⟨t9, ht9⟩ : ∃ b, b = decide (y = q.1) := ⟨_, rfl⟩
            rw [← ht9] at hee
            clear hy hSN hS' hS2 hSY hSY2 ht9
            have hsl : (((n' + 1 : Nat) : Int) - 1) = (n' : Int) := by omega
            have hd1 : decide ((n' : Int) < 0) = false := by simp
            have k0 := cell_of_heap GQ8.out 0
            have k1 := cell_of_heap GQ8.out 1
            have k2 := cell_of_heap GQ8.out 2
            have k3 := cell_of_heap GQ8.out 3
            go_upto_region 17 with fail
            try rw [hsl]
            cases t9
            · go_quiet (fail)
              obtain ⟨W17, hW17⟩ : ∃ W, W = w8.drewN nq := ⟨_, rfl⟩
              rw [← hW17]
              have hkw := HKD8.out.below (below_drewN nq w8)
              rw [← hW17] at hkw
              have HKDw := Lib.hid hkw; have GQw := Lib.hid (show W17.heap[b7]? = some (.cells #[.string S, .int .i64 q1, .int .i64 q2, .int .i64 q3] 26 (0, 0)) by rw [hW17]; exact GQ8.out); have HBw := Lib.hid (show Below w6.heap.size w6 W17 by rw [hW17]; exact below_drewN_of HB68.out)
              clear hkw
              clear hW17 k0 k1 k2 k3 hee cN0 hsl hd1
              obtain ⟨wS, hwS, hbS, hxS, y1, y2⟩ := any_block W17 #[.string S] 9
              obtain ⟨bS, hbSe⟩ : ∃ b, W17.heap.size = b := ⟨_, rfl⟩
              rw [hbSe] at hxS
              have HSRCS := Lib.hid (src_one Tryz.underlying47 rfl hxS); have HKDb := Lib.hid (HKDw.out.below hbS); have GQb := Lib.hid ((hbS.block _ (lt_of_heap GQw.out)).trans GQw.out); have HBb := Lib.hid (HBw.out.trans (hbS.mono HBw.out.size))
              clear hbS hxS y1 y2
              have k0 := cell_of_heap GQw.out 0
              have k1 := cell_of_heap GQw.out 1
              have k2 := cell_of_heap GQw.out 2
              have k3 := cell_of_heap GQw.out 3
              go_wp2_with (first | (at_builtin; refine wpList_append_srcs rfl (.tmp 82) (.tmp 85) 47 47 rfl w6.heap.size 9 iS _ 1 16 Tryz.underlying47 HIS.out.1 HIS.out.2.1 HIS.out.2.2.1 HIS.out.2.2.2 rfl (by decide) (.slice (some ⟨gN, 0, none⟩) (n' + 1) cN) rfl (n' + 1) (ns.map strV) HKDb.out.names (.slice (some ⟨bS, 0, none⟩) 1 1) rfl 1 [.string S] HSRCS.out (by unfold maxLen; omega) (by omega) HKDb.out.low ?_; intro aN1 cN1 wN hown hgrow _ _; have hkdN := HKDb.out.addN (q := q.1) (by rw [HSQ.out.1]; exact hown) hgrow; have hbN := below_grownR HBb.out hgrow (fun g hg => (row_base HKDb.out.names g hg).1); have hqN := (hgrow.block b7 (lt_of_heap GQb.out) (fun e => by obtain ⟨c2, h2⟩ := row_kindR HKDb.out.names b7 e.symm; exact cells_ne GQb.out h2 (by decide))).trans GQb.out; clear hown hgrow; obtain ⟨wK, hwK, hbK, hxK, y1, y2⟩ := any_block wN #[.slice none 0 0] 28; obtain ⟨bK, hbKe⟩ : ∃ b, wN.heap.size = b := ⟨_, rfl⟩; rw [hbKe] at hxK; have HSRCK := Lib.hid (src_one Tryz.underlying48 rfl hxK); have HKDK := Lib.hid (hkdN.below hbK); have HBK := Lib.hid (hbN.trans (hbK.mono hbN.size)); have GQK := Lib.hid ((hbK.block _ (lt_of_heap hqN)).trans hqN); clear hkdN hbN hqN hbK hxK y1 y2) | (at_builtin; refine wpList_append_srcs rfl (.tmp 87) (.tmp 88) 48 48 rfl w6.heap.size 28 iK _ 1 24 Tryz.underlying48 HIK.out.1 HIK.out.2.1 HIK.out.2.2.1 HIK.out.2.2.2 rfl (by decide) (.slice aK (n' + 1) cK) rfl (n' + 1) ks HKDK.out.kinds (.slice (some ⟨bK, 0, none⟩) 1 1) rfl 1 [.slice none 0 0] HSRCK.out (by unfold maxLen; omega) (by omega) HKDK.out.low ?_; intro aK1 cK1 wX hown hgrow _ _; have HKDX := Lib.hid (HKDK.out.addK hown hgrow); have HBX := Lib.hid (below_grownR HBK.out hgrow (fun g hg => (row_base HKDK.out.kinds g hg).1)); have GQX := Lib.hid ((hgrow.block b7 (lt_of_heap GQK.out) (fun e => by obtain ⟨c2, h2⟩ := row_kindR HKDK.out.kinds b7 e.symm; exact cells_ne GQK.out h2 (by decide))).trans GQK.out); clear hown hgrow) | fail)
              clear k0 k1 k2 k3
              obtain ⟨gK, xL, L, kL, eK, hks, hLs, hcl0, ⟨curK, hgK⟩, hfl⟩ := HKDX.out.cell (k := (n' + 1)) (by omega)
              subst eK
              obtain ⟨nL, hnL⟩ : ∃ n, n = L.length := ⟨_, rfl⟩
              rw [← hnL] at hks hcl0 hfl
              have HKS := Lib.hid (And.intro hks (And.intro hLs hnL))
              go_upto_region 21 with fail
              refine UpV.start [(8, fun W : World => W.cell? ⟨gK, (n' + 1), none⟩ = some (.slice xL nL kL)), (7, fun W : World => W.cell? ⟨b7, 0, none⟩ = some (.string S) ∧ W.cell? ⟨b7, 1, none⟩ = some (.int .i64 q1) ∧ W.cell? ⟨b7, 2, none⟩ = some (.int .i64 q2) ∧ W.cell? ⟨b7, 3, none⟩ = some (.int .i64 q3))] (by kernel_rfl) ?_
              obtain ⟨Wd, hWd⟩ : ∃ W, W = wX.drew := ⟨_, rfl⟩
              rw [← hWd]
              have hkd0 := HKDX.out.below (Below.refl _ wX).drew
              rw [← hWd] at hkd0
              have hq7 : Wd.heap[b7]? = some (.cells #[.string S, .int .i64 q1, .int .i64 q2, .int .i64 q3] 26 (0, 0)) := by rw [hWd]; exact GQX.out
              have hbd : Below w6.heap.size w6 Wd := by rw [hWd]; exact HBX.out.drew
              have hcl1 : Wd.cell? ⟨gK, (n' + 1), none⟩ = some (.slice xL nL kL) := by rw [hWd]; exact hcl0
              have hgK1 : Wd.heap[gK]? = some (.cells curK 28 (0, 0)) := by rw [hWd]; exact hgK
              have HKD0 := Lib.hid hkd0; have HQ7 := Lib.hid hq7; have HBD0 := Lib.hid hbd; have HGK := Lib.hid hgK1
              have hA0 : ∀ q ∈ ([(8, fun W : World => W.cell? ⟨gK, (n' + 1), none⟩ = some (.slice xL nL kL)), (7, fun W : World => W.cell? ⟨b7, 0, none⟩ = some (.string S) ∧ W.cell? ⟨b7, 1, none⟩ = some (.int .i64 q1) ∧ W.cell? ⟨b7, 2, none⟩ = some (.int .i64 q2) ∧ W.cell? ⟨b7, 3, none⟩ = some (.int .i64 q3))] : List (Nat × (World → Prop))), q.2 Wd := by
                intro q hq
                rcases List.mem_cons.1 hq with rfl | hq
                · exact hcl1
                · obtain rfl := List.mem_singleton.1 hq
                  exact ⟨cell_of_heap HQ7.out 0, cell_of_heap HQ7.out 1, cell_of_heap HQ7.out 2, cell_of_heap HQ7.out 3⟩
              clear hkd0 hq7 hbd hgK1 hgK hcl0 hks hLs hnL hWd
              refine UpV.takeP 0 (v := .slice (some ⟨gK, 0, none⟩) (n' + 1 + 1) cK1) rfl (by kernel_rfl) (by kernel_rfl) (by kernel_rfl) (by kernel_rfl) (fun _ _ _ h => h) (Or.inl ⟨by rfl, ?_⟩) (owe_all hA0) ?_
              · intro w hSw; first | rfl | (go_simp; done)
              try simp only [Act.put, List.setIfInBounds_toArray, List.set_cons_zero, List.set_cons_succ, List.getElem_toArray, List.getElem_cons_zero, List.getElem_cons_succ]
              refine UpV.takeP 1 (v := .int .i64 ((n' + 1 : Nat) : Int)) rfl (by kernel_rfl) (by kernel_rfl) (by kernel_rfl) (by kernel_rfl) (fun _ _ _ h => h) (Or.inl ⟨by rfl, ?_⟩) (owe_all hA0) ?_
              · intro w hSw; first | rfl | (go_simp; done)
              try simp only [Act.put, List.setIfInBounds_toArray, List.set_cons_zero, List.set_cons_succ, List.getElem_toArray, List.getElem_cons_zero, List.getElem_cons_succ]
              refine UpV.takeP 2 (v := .slice (some ⟨gK, 0, none⟩) (n' + 1 + 1) cK1) rfl (by kernel_rfl) (by kernel_rfl) (by kernel_rfl) (by kernel_rfl) (fun _ _ _ h => h) (Or.inl ⟨by rfl, ?_⟩) (owe_all hA0) ?_
              · intro w hSw; first | rfl | (go_simp; done)
              try simp only [Act.put, List.setIfInBounds_toArray, List.set_cons_zero, List.set_cons_succ, List.getElem_toArray, List.getElem_cons_zero, List.getElem_cons_succ]
              refine UpV.takeP 3 (v := .int .i64 ((n' + 1 : Nat) : Int)) rfl (by kernel_rfl) (by kernel_rfl) (by kernel_rfl) (by kernel_rfl) (fun _ _ _ h => h) (Or.inl ⟨by rfl, ?_⟩) (owe_all hA0) ?_
              · intro w hSw; first | rfl | (go_simp; done)
              try simp only [Act.put, List.setIfInBounds_toArray, List.set_cons_zero, List.set_cons_succ, List.getElem_toArray, List.getElem_cons_zero, List.getElem_cons_succ]
              refine UpV.takeP 4 (v := .pointer (some ⟨gK, (n' + 1), none⟩)) rfl (by kernel_rfl) (by kernel_rfl) (by kernel_rfl) (by kernel_rfl) (fun _ _ _ h => h) (Or.inl ⟨by rfl, ?_⟩) (owe_all hA0) ?_
              · intro w hSw; first | rfl | (go_simp; done) | (go_simp; intro h; exact absurd (h (by omega)) (by omega)) | (go_simp; omega)
              try simp only [Act.put, List.setIfInBounds_toArray, List.set_cons_zero, List.set_cons_succ, List.getElem_toArray, List.getElem_cons_zero, List.getElem_cons_succ]
              refine UpV.take 5 8 (v := .slice xL nL kL) rfl (List.mem_cons_self ..) (by kernel_rfl) (by kernel_rfl) (by kernel_rfl) (by kernel_rfl) (by kernel_rfl) (fun _ _ _ h => h) (Or.inl ⟨by rfl, ?_⟩) (owe_all hA0) ?_
              · intro w hSw; have s0 : w.cell? ⟨gK, (n' + 1), none⟩ = some (.slice xL nL kL) := hSw; go_simp
              try simp only [Act.put, List.setIfInBounds_toArray, List.set_cons_zero, List.set_cons_succ, List.getElem_toArray, List.getElem_cons_zero, List.getElem_cons_succ]
              refine UpV.take 6 7 (v := .agg #[.string S, .int .i64 q1, .int .i64 q2, .int .i64 q3]) rfl (List.mem_cons_of_mem _ (List.mem_cons_self ..)) (by kernel_rfl) (by kernel_rfl) (by kernel_rfl) (by kernel_rfl) (by kernel_rfl) (fun _ _ _ h => h) (Or.inl ⟨by rfl, ?_⟩) (owe_all hA0) ?_
              · intro w hSw; obtain ⟨s0, s1, s2, s3⟩ := hSw; go_simp
              try simp only [Act.put, List.setIfInBounds_toArray, List.set_cons_zero, List.set_cons_succ, List.getElem_toArray, List.getElem_cons_zero, List.getElem_cons_succ]
              refine UpV.one 7 (by kernel_rfl) rfl ?_
              intro K hK
              obtain ⟨w9, hw9, hb9, hx9, z1, z2⟩ := any_block Wd #[.string S, .int .i64 q1, .int .i64 q2, .int .i64 q3] 26
              obtain ⟨b9, hb9e⟩ : ∃ b, Wd.heap.size = b := ⟨_, rfl⟩
              rw [hb9e] at hx9
              have hkd9 := HKD0.out.below hb9
              have hrL := hkd9.each _ _ _ HKS.out.1 HKS.out.2.1
              have hsrc9 := src_pk (q := q) HSQ.out.1 (by rw [← HSQ.out.2.1, ← HSQ.out.2.2.1, ← HSQ.out.2.2.2]; exact hx9)
              have hb69 := HBD0.out.trans (hb9.mono HBD0.out.size)
              have c9 := below_keeps hb9 _ _ hcl1
              have g9 := (hb9.block _ (lt_of_heap HGK.out)).trans HGK.out
              unfold PkRow at hrL
              rw [← HKS.out.2.2] at hrL
              have HKD9 := Lib.hid hkd9; have HRL := Lib.hid hrL; have HSRC9 := Lib.hid hsrc9; have HB69 := Lib.hid hb69; have HG9 := Lib.hid g9
              clear hkd9 hrL hsrc9 hb69 hb9 hx9 z1 z2 g9
              try simp only [List.getElem_toArray, List.getElem_cons_zero, List.getElem_cons_succ]
              try go_simp
              try rw [hb9e]
              try rw [hw9]
              refine hK.out _ _ (owe2 (fun _ => c9) (fun h => by cases h)) ?_
              clear hK K hA0
              try simp only [Act.put, List.setIfInBounds_toArray, List.set_cons_zero, List.set_cons_succ, List.getElem_toArray, List.getElem_cons_zero, List.getElem_cons_succ]
              refine UpV.one 8 (by kernel_rfl) rfl ?_
              intro K hK
              refine step_append_srcs rfl (.tmp 97) (.tmp 99) 28 28 rfl w6.heap.size 26 iP _ 4 40 Tryz.underlying28 HI.out.1 HI.out.2.1 HI.out.2.2.1 HI.out.2.2.2 rfl (by decide) (.slice xL nL kL) (by first | rfl | (simp [Act.eval]; done) | (simp [Act.eval, Act.put]; done)) nL (L.flatMap pkL) HRL.out (.slice (some ⟨b9, 0, none⟩) 1 1) (by first | rfl | (simp [Act.eval]; done) | (simp [Act.eval, Act.put]; done)) 1 (pkL q) HSRC9.out (by unfold maxLen; omega) (by omega) HB69.out.size ?_
              intro aA cA wA hown hgrow _ hblk
              have hrow := PkRow.push HKS.out.2.2 hown
              have hput := HKD9.out.put (k := (n' + 1)) (by omega) (by rw [HKS.out.2.2] at *; exact HKS.out.1) HKS.out.2.1 hrow hgrow hblk
              have hbA := below_grownR HB69.out hgrow (fun g hg => (row_base HRL.out g hg).1)
              have hgA : wA.heap[gK]? = some (.cells curK 28 (0, 0)) := (hgrow.block gK (lt_of_heap HG9.out) (fun e => by obtain ⟨c2, h2⟩ := row_kindR HRL.out gK e.symm; exact cells_ne HG9.out h2 (by decide))).trans HG9.out
              have cA0 : wA.cell? ⟨gK, (n' + 1), none⟩ = some (.slice xL nL kL) := by rw [World.cell?_of_block (a := ⟨gK, (n' + 1), none⟩) (hgA.trans HG9.out.symm)]; exact c9
              have fA := frozen_of_heap hgA
              have HPUT := Lib.hid hput; have HBA := Lib.hid hbA; have HGA := Lib.hid hgA
              clear hown hgrow hblk hrow hput hbA hgA
              refine hK.out _ _ (owe2 (fun h => by cases h) (fun h => by cases h)) ?_
              clear hK K
              try simp only [Act.put, List.setIfInBounds_toArray, List.set_cons_zero, List.set_cons_succ, List.getElem_toArray, List.getElem_cons_zero, List.getElem_cons_succ]
              refine UpV.takeP 9 (v := .pointer (some ⟨gK, (n' + 1), none⟩)) rfl (by kernel_rfl) (by kernel_rfl) (by kernel_rfl) (by kernel_rfl) (fun _ _ _ h => h) (Or.inl ⟨by rfl, ?_⟩) (owe2 (fun h => by cases h) (fun h => by cases h)) ?_
              · intro w hSw; first | rfl | (go_simp; done) | (go_simp; intro h; exact absurd (h (by omega)) (by omega)) | (go_simp; omega)
              try simp only [Act.put, List.setIfInBounds_toArray, List.set_cons_zero, List.set_cons_succ, List.getElem_toArray, List.getElem_cons_zero, List.getElem_cons_succ]
              refine UpV.one 10 (by kernel_rfl) rfl ?_
              intro K hK
              try simp only [List.getElem_toArray, List.getElem_cons_zero, List.getElem_cons_succ]
              try go_simp
              refine hK.out _ _ (owe2 (fun h => by cases h) (fun h => by cases h)) ?_
              clear hK K
              try simp only [Act.put, List.setIfInBounds_toArray, List.set_cons_zero, List.set_cons_succ, List.getElem_toArray, List.getElem_cons_zero, List.getElem_cons_succ]
              refine UpV.done (by kernel_rfl) ?_
              have HBW := Lib.hid (below_set HBA.out (show w6.heap.size ≤ gK from by have h1 := row_base HPUT.out.kinds gK rfl; exact h1.1) (n' + 1) (.slice aA (nL + 1) cA))
              go_wp2_with fail
              go_roundw
              case rel => exact ⟨k + 1, _, aN1, cN1, some ⟨gK, 0, none⟩, cK1, _, _, _, rfl, rfl, by go_num, hlt, by omega, HPUT, HBW⟩
              case measure => simp [intOf]; omega
            · go_quiet (fail)
              obtain ⟨W17, hW17⟩ : ∃ W, W = w8.drewN nq := ⟨_, rfl⟩
              rw [← hW17]
              have hkw := HKD8.out.below (below_drewN nq w8)
              rw [← hW17] at hkw
              have HKDw := Lib.hid hkw; have GQw := Lib.hid (show W17.heap[b7]? = some (.cells #[.string S, .int .i64 q1, .int .i64 q2, .int .i64 q3] 26 (0, 0)) by rw [hW17]; exact GQ8.out); have HBw := Lib.hid (show Below w6.heap.size w6 W17 by rw [hW17]; exact below_drewN_of HB68.out)
              clear hkw
              clear hW17 k0 k1 k2 k3 hee cN0 hsl hd1
              obtain ⟨cN1, hcN1⟩ : ∃ c, c = cN := ⟨_, rfl⟩
              obtain ⟨cK1, hcK1⟩ : ∃ c, c = cK := ⟨_, rfl⟩
              subst hcN1 hcK1
              have HKDX := HKDw; have GQX := GQw; have HBX := HBw
              go_wp2_with fail
              obtain ⟨gK, xL, L, kL, eK, hks, hLs, hcl0, ⟨curK, hgK⟩, hfl⟩ := HKDX.out.cell (k := n') (by omega)
              subst eK
              obtain ⟨nL, hnL⟩ : ∃ n, n = L.length := ⟨_, rfl⟩
              rw [← hnL] at hks hcl0 hfl
              have HKS := Lib.hid (And.intro hks (And.intro hLs hnL))
              go_upto_region 21 with fail
              refine UpV.start [(8, fun W : World => W.cell? ⟨gK, n', none⟩ = some (.slice xL nL kL)), (7, fun W : World => W.cell? ⟨b7, 0, none⟩ = some (.string S) ∧ W.cell? ⟨b7, 1, none⟩ = some (.int .i64 q1) ∧ W.cell? ⟨b7, 2, none⟩ = some (.int .i64 q2) ∧ W.cell? ⟨b7, 3, none⟩ = some (.int .i64 q3))] (by kernel_rfl) ?_
              obtain ⟨Wd, hWd⟩ : ∃ W, W = W17.drew := ⟨_, rfl⟩
              rw [← hWd]
              have hkd0 := HKDX.out.below (Below.refl _ W17).drew
              rw [← hWd] at hkd0
              have hq7 : Wd.heap[b7]? = some (.cells #[.string S, .int .i64 q1, .int .i64 q2, .int .i64 q3] 26 (0, 0)) := by rw [hWd]; exact GQX.out
              have hbd : Below w6.heap.size w6 Wd := by rw [hWd]; exact HBX.out.drew
              have hcl1 : Wd.cell? ⟨gK, n', none⟩ = some (.slice xL nL kL) := by rw [hWd]; exact hcl0
              have hgK1 : Wd.heap[gK]? = some (.cells curK 28 (0, 0)) := by rw [hWd]; exact hgK
              have HKD0 := Lib.hid hkd0; have HQ7 := Lib.hid hq7; have HBD0 := Lib.hid hbd; have HGK := Lib.hid hgK1
              have hA0 : ∀ q ∈ ([(8, fun W : World => W.cell? ⟨gK, n', none⟩ = some (.slice xL nL kL)), (7, fun W : World => W.cell? ⟨b7, 0, none⟩ = some (.string S) ∧ W.cell? ⟨b7, 1, none⟩ = some (.int .i64 q1) ∧ W.cell? ⟨b7, 2, none⟩ = some (.int .i64 q2) ∧ W.cell? ⟨b7, 3, none⟩ = some (.int .i64 q3))] : List (Nat × (World → Prop))), q.2 Wd := by
                intro q hq
                rcases List.mem_cons.1 hq with rfl | hq
                · exact hcl1
                · obtain rfl := List.mem_singleton.1 hq
                  exact ⟨cell_of_heap HQ7.out 0, cell_of_heap HQ7.out 1, cell_of_heap HQ7.out 2, cell_of_heap HQ7.out 3⟩
              clear hkd0 hq7 hbd hgK1 hgK hcl0 hks hLs hnL hWd
              refine UpV.takeP 0 (v := .slice (some ⟨gK, 0, none⟩) (n' + 1) cK1) rfl (by kernel_rfl) (by kernel_rfl) (by kernel_rfl) (by kernel_rfl) (fun _ _ _ h => h) (Or.inl ⟨by rfl, ?_⟩) (owe_all hA0) ?_
              · intro w hSw; first | rfl | (go_simp; done)
              try simp only [Act.put, List.setIfInBounds_toArray, List.set_cons_zero, List.set_cons_succ, List.getElem_toArray, List.getElem_cons_zero, List.getElem_cons_succ]
              refine UpV.takeP 1 (v := .int .i64 (n' : Int)) rfl (by kernel_rfl) (by kernel_rfl) (by kernel_rfl) (by kernel_rfl) (fun _ _ _ h => h) (Or.inl ⟨by rfl, ?_⟩) (owe_all hA0) ?_
              · intro w hSw; first | rfl | (go_simp; done)
              try simp only [Act.put, List.setIfInBounds_toArray, List.set_cons_zero, List.set_cons_succ, List.getElem_toArray, List.getElem_cons_zero, List.getElem_cons_succ]
              refine UpV.takeP 2 (v := .slice (some ⟨gK, 0, none⟩) (n' + 1) cK1) rfl (by kernel_rfl) (by kernel_rfl) (by kernel_rfl) (by kernel_rfl) (fun _ _ _ h => h) (Or.inl ⟨by rfl, ?_⟩) (owe_all hA0) ?_
              · intro w hSw; first | rfl | (go_simp; done)
              try simp only [Act.put, List.setIfInBounds_toArray, List.set_cons_zero, List.set_cons_succ, List.getElem_toArray, List.getElem_cons_zero, List.getElem_cons_succ]
              refine UpV.takeP 3 (v := .int .i64 (n' : Int)) rfl (by kernel_rfl) (by kernel_rfl) (by kernel_rfl) (by kernel_rfl) (fun _ _ _ h => h) (Or.inl ⟨by rfl, ?_⟩) (owe_all hA0) ?_
              · intro w hSw; first | rfl | (go_simp; done)
              try simp only [Act.put, List.setIfInBounds_toArray, List.set_cons_zero, List.set_cons_succ, List.getElem_toArray, List.getElem_cons_zero, List.getElem_cons_succ]
              refine UpV.takeP 4 (v := .pointer (some ⟨gK, n', none⟩)) rfl (by kernel_rfl) (by kernel_rfl) (by kernel_rfl) (by kernel_rfl) (fun _ _ _ h => h) (Or.inl ⟨by rfl, ?_⟩) (owe_all hA0) ?_
              · intro w hSw; first | rfl | (go_simp; done) | (go_simp; intro h; exact absurd (h (by omega)) (by omega)) | (go_simp; omega)
              try simp only [Act.put, List.setIfInBounds_toArray, List.set_cons_zero, List.set_cons_succ, List.getElem_toArray, List.getElem_cons_zero, List.getElem_cons_succ]
              refine UpV.take 5 8 (v := .slice xL nL kL) rfl (List.mem_cons_self ..) (by kernel_rfl) (by kernel_rfl) (by kernel_rfl) (by kernel_rfl) (by kernel_rfl) (fun _ _ _ h => h) (Or.inl ⟨by rfl, ?_⟩) (owe_all hA0) ?_
              · intro w hSw; have s0 : w.cell? ⟨gK, n', none⟩ = some (.slice xL nL kL) := hSw; go_simp
              try simp only [Act.put, List.setIfInBounds_toArray, List.set_cons_zero, List.set_cons_succ, List.getElem_toArray, List.getElem_cons_zero, List.getElem_cons_succ]
              refine UpV.take 6 7 (v := .agg #[.string S, .int .i64 q1, .int .i64 q2, .int .i64 q3]) rfl (List.mem_cons_of_mem _ (List.mem_cons_self ..)) (by kernel_rfl) (by kernel_rfl) (by kernel_rfl) (by kernel_rfl) (by kernel_rfl) (fun _ _ _ h => h) (Or.inl ⟨by rfl, ?_⟩) (owe_all hA0) ?_
              · intro w hSw; obtain ⟨s0, s1, s2, s3⟩ := hSw; go_simp
              try simp only [Act.put, List.setIfInBounds_toArray, List.set_cons_zero, List.set_cons_succ, List.getElem_toArray, List.getElem_cons_zero, List.getElem_cons_succ]
              refine UpV.one 7 (by kernel_rfl) rfl ?_
              intro K hK
              obtain ⟨w9, hw9, hb9, hx9, z1, z2⟩ := any_block Wd #[.string S, .int .i64 q1, .int .i64 q2, .int .i64 q3] 26
              obtain ⟨b9, hb9e⟩ : ∃ b, Wd.heap.size = b := ⟨_, rfl⟩
              rw [hb9e] at hx9
              have hkd9 := HKD0.out.below hb9
              have hrL := hkd9.each _ _ _ HKS.out.1 HKS.out.2.1
              have hsrc9 := src_pk (q := q) HSQ.out.1 (by rw [← HSQ.out.2.1, ← HSQ.out.2.2.1, ← HSQ.out.2.2.2]; exact hx9)
              have hb69 := HBD0.out.trans (hb9.mono HBD0.out.size)
              have c9 := below_keeps hb9 _ _ hcl1
              have g9 := (hb9.block _ (lt_of_heap HGK.out)).trans HGK.out
              unfold PkRow at hrL
              rw [← HKS.out.2.2] at hrL
              have HKD9 := Lib.hid hkd9; have HRL := Lib.hid hrL; have HSRC9 := Lib.hid hsrc9; have HB69 := Lib.hid hb69; have HG9 := Lib.hid g9
              clear hkd9 hrL hsrc9 hb69 hb9 hx9 z1 z2 g9
              try simp only [List.getElem_toArray, List.getElem_cons_zero, List.getElem_cons_succ]
              try go_simp
              try rw [hb9e]
              try rw [hw9]
              refine hK.out _ _ (owe2 (fun _ => c9) (fun h => by cases h)) ?_
              clear hK K hA0
              try simp only [Act.put, List.setIfInBounds_toArray, List.set_cons_zero, List.set_cons_succ, List.getElem_toArray, List.getElem_cons_zero, List.getElem_cons_succ]
              refine UpV.one 8 (by kernel_rfl) rfl ?_
              intro K hK
              refine step_append_srcs rfl (.tmp 97) (.tmp 99) 28 28 rfl w6.heap.size 26 iP _ 4 40 Tryz.underlying28 HI.out.1 HI.out.2.1 HI.out.2.2.1 HI.out.2.2.2 rfl (by decide) (.slice xL nL kL) (by first | rfl | (simp [Act.eval]; done) | (simp [Act.eval, Act.put]; done)) nL (L.flatMap pkL) HRL.out (.slice (some ⟨b9, 0, none⟩) 1 1) (by first | rfl | (simp [Act.eval]; done) | (simp [Act.eval, Act.put]; done)) 1 (pkL q) HSRC9.out (by unfold maxLen; omega) (by omega) HB69.out.size ?_
              intro aA cA wA hown hgrow _ hblk
              have hrow := PkRow.push HKS.out.2.2 hown
              have hput := HKD9.out.put (k := n') (by omega) (by rw [HKS.out.2.2] at *; exact HKS.out.1) HKS.out.2.1 hrow hgrow hblk
              have hbA := below_grownR HB69.out hgrow (fun g hg => (row_base HRL.out g hg).1)
              have hgA : wA.heap[gK]? = some (.cells curK 28 (0, 0)) := (hgrow.block gK (lt_of_heap HG9.out) (fun e => by obtain ⟨c2, h2⟩ := row_kindR HRL.out gK e.symm; exact cells_ne HG9.out h2 (by decide))).trans HG9.out
              have cA0 : wA.cell? ⟨gK, n', none⟩ = some (.slice xL nL kL) := by rw [World.cell?_of_block (a := ⟨gK, n', none⟩) (hgA.trans HG9.out.symm)]; exact c9
              have fA := frozen_of_heap hgA
              have HPUT := Lib.hid hput; have HBA := Lib.hid hbA; have HGA := Lib.hid hgA
              clear hown hgrow hblk hrow hput hbA hgA
              refine hK.out _ _ (owe2 (fun h => by cases h) (fun h => by cases h)) ?_
              clear hK K
              try simp only [Act.put, List.setIfInBounds_toArray, List.set_cons_zero, List.set_cons_succ, List.getElem_toArray, List.getElem_cons_zero, List.getElem_cons_succ]
              refine UpV.takeP 9 (v := .pointer (some ⟨gK, n', none⟩)) rfl (by kernel_rfl) (by kernel_rfl) (by kernel_rfl) (by kernel_rfl) (fun _ _ _ h => h) (Or.inl ⟨by rfl, ?_⟩) (owe2 (fun h => by cases h) (fun h => by cases h)) ?_
              · intro w hSw; first | rfl | (go_simp; done) | (go_simp; intro h; exact absurd (h (by omega)) (by omega)) | (go_simp; omega)
              try simp only [Act.put, List.setIfInBounds_toArray, List.set_cons_zero, List.set_cons_succ, List.getElem_toArray, List.getElem_cons_zero, List.getElem_cons_succ]
              refine UpV.one 10 (by kernel_rfl) rfl ?_
              intro K hK
              try simp only [List.getElem_toArray, List.getElem_cons_zero, List.getElem_cons_succ]
              try go_simp
              refine hK.out _ _ (owe2 (fun h => by cases h) (fun h => by cases h)) ?_
              clear hK K
              try simp only [Act.put, List.setIfInBounds_toArray, List.set_cons_zero, List.set_cons_succ, List.getElem_toArray, List.getElem_cons_zero, List.getElem_cons_succ]
              refine UpV.done (by kernel_rfl) ?_
              have HBW := Lib.hid (below_set HBA.out (show w6.heap.size ≤ gK from by have h1 := row_base HPUT.out.kinds gK rfl; exact h1.1) n' (.slice aA (nL + 1) cA))
              go_wp2_with fail
              go_roundw
              case rel => exact ⟨k + 1, _, some ⟨gN, 0, none⟩, cN1, some ⟨gK, 0, none⟩, cK1, _, _, _, rfl, rfl, by go_num, hlt, by omega, HPUT, HBW⟩
              case measure => simp [intOf]; omega
      · obtain rfl : nA' = k := by omega
        obtain ⟨w8, hw8⟩ : ∃ X, X = wr := ⟨wr, rfl⟩
        subst hw8
        have hn40 : n ≤ 40 := by omega
        have G18 := Lib.hid ((hbw.out.block _ (lt_of_heap G16.out)).trans G16.out); have G48 := Lib.hid ((hbw.out.block _ (lt_of_heap G46.out)).trans G46.out); have HC8 := Lib.hid (HC6.out.trans (hbw.out.mono HC6.out.size)); have HB8 := Lib.hid (HB6.out.trans (hbw.out.mono HB6.out.size))
        have HKA8 := Lib.hid (hkd.out.at (by omega) (by omega))
        clear hkd hbw hlt
        have gx0 := cell_of_heap G18.out 0
        have gx1 := cell_of_heap G18.out 1
        have gx2 := cell_of_heap G18.out 2
        have gx3 := cell_of_heap G18.out 3
        have gx4 := cell_of_heap G18.out 4
        have gx5 := cell_of_heap G18.out 5
        have gx6 := cell_of_heap G18.out 6
        have gx7 := cell_of_heap G18.out 7
        have gs0 := cell_of_heap G48.out 0
        have gs1 := cell_of_heap G48.out 1
        go_wp2_with fail
        go_loopw [12, 105] (fun y i wr => ∃ (V1 : Int) (k : Nat), y = .int .i64 V1 ∧ i = .int .i64 k ∧ k ≤ n ∧ 1 ≤ V1 ∧ V1 ≤ 1100 ∧ Hid (Below w8.heap.size w8 wr)) (fun _ i _ => n - (intOf i).toNat)
        case atStart => exact ⟨1, 0, rfl, rfl, Nat.zero_le _, by omega, by omega, Lib.hid (Below.refl _ _)⟩
        case round =>
          obtain ⟨V1, k, rfl, rfl, hk2, hV1, hV2, hb8⟩ := hrel
          by_cases hl2 : k < n
          · obtain ⟨L, hL⟩ : ∃ L, Ls[k]? = some L := ⟨_, List.getElem?_eq_getElem (by rw [HKA8.out.1]; exact hl2)⟩
            obtain ⟨gK, cK2, xL, nL, kL, eK, hcK, hnL, hPL, hfl, hmc⟩ := (HKA8.out.below hb8.out).2.2 k L hL
            subst eK
            have hn41 : nL ≤ 40 := by omega
            obtain ⟨P, hP⟩ : ∃ P, V1 * (1 + (nL : Int)) = P := ⟨_, rfl⟩
            have hp1 : V1 * 1 ≤ V1 * (1 + (nL : Int)) := Int.mul_le_mul_of_nonneg_left (by omega) (by omega)
            have hp2 : V1 * (1 + (nL : Int)) ≤ 1100 * 41 := Int.mul_le_mul (by omega) (by omega) (by omega) (by omega)
            rw [hP] at hp1 hp2
            clear hL hnL hPL hfl
            by_cases hPg : 1100 < P
            · go_wp2_with fail
              go_ret
              exact ⟨rfl, HB8.out.trans (hb8.out.mono HB8.out.size)⟩
            · go_wp2_with fail
              go_roundw
              case rel => exact ⟨P, k + 1, rfl, by go_num, hl2, by omega, by omega, hb8⟩
              case measure => simp [intOf]; omega
          · obtain rfl : n = k := by omega
            obtain ⟨w9, hw9⟩ : ∃ X, X = wr := ⟨wr, rfl⟩
            subst hw9
            clear gx0 gx1 gx2 gx3 gx4 gx5 gx6 gx7 gs0 gs1
            have G19 := Lib.hid ((hb8.out.block _ (lt_of_heap G18.out)).trans G18.out); have G49 := Lib.hid ((hb8.out.block _ (lt_of_heap G48.out)).trans G48.out); have HC9 := Lib.hid (HC8.out.trans (hb8.out.mono HC8.out.size)); have HB9 := Lib.hid (HB8.out.trans (hb8.out.mono HB8.out.size))
            have HKA9 := Lib.hid (HKA8.out.below hb8.out)
            clear hb8 hl2
            have gx0 := cell_of_heap G19.out 0
            have gx1 := cell_of_heap G19.out 1
            have gx2 := cell_of_heap G19.out 2
            have gx3 := cell_of_heap G19.out 3
            have gx4 := cell_of_heap G19.out 4
            have gx5 := cell_of_heap G19.out 5
            have gx6 := cell_of_heap G19.out 6
            have gx7 := cell_of_heap G19.out 7
            have gs0 := cell_of_heap G49.out 0
            have gs1 := cell_of_heap G49.out 1
            go_wp2_with fail
            refine (HRC.out _ HC9.out).mono ?_
            intro e w10 hrp
            obtain ⟨rs, rx, ry, rz, rt, ra1, rn1, rc1, ra2, rn2, rc2, ra3, rn3, rc3, rb, rfl, hrb, h10, hat⟩ := hrp.shape
            obtain ⟨r, hr⟩ := HRQ.out
            rw [hr] at hrb
            obtain rfl : rb = true := hrb
            obtain ⟨w11, hw11, hbw, hx5, y1, y2⟩ := any_block w10 #[.string rs, .int .i64 rx, .int .i64 ry, .int .i64 rz, .string rt, .slice ra1 rn1 rc1, .slice ra2 rn2 rc2, .slice ra3 rn3 rc3] 56
            obtain ⟨b11, hb11⟩ : ∃ b, w10.heap.size = b := ⟨_, rfl⟩
            rw [hb11] at hx5
            have h45 := h10.trans (hbw.mono h10.size)
            have hat2 := (hat r hr).below hbw
            obtain ⟨t0, t1', bd, rn, ee, -, hdt, -, -⟩ := hat2
            simp only [List.cons.injEq, and_true] at ee
            obtain ⟨-, -, -, -, rfl, rfl, -, -⟩ := ee
            clear gx0 gx1 gx2 gx3 gx4 gx5 gx6 gx7 gs0 gs1
            have G111 := Lib.hid ((h45.block _ (lt_of_heap G19.out)).trans G19.out); have G411 := Lib.hid ((h45.block _ (lt_of_heap G49.out)).trans G49.out); have HC11 := Lib.hid (HC9.out.trans (h45.mono HC9.out.size)); have HB11 := Lib.hid (HB9.out.trans (h45.mono HB9.out.size))
            have GR11 := Lib.hid hx5; have HTL := Lib.hid hdt; have HKA11 := Lib.hid (HKA9.out.below h45)
            clear hrp h10 hat hbw hx5 h45 hdt hr y1 y2
            go_wp2_with fail
            go_loopw [20] (fun x wr => ∃ j : Nat, x = .int .i64 j ∧ (j : Int) ≤ V1 ∧ Hid (Below w11.heap.size w11 wr)) (fun x _ => (V1 - intOf x).toNat)
            case atStart => exact ⟨0, rfl, by omega, Lib.hid (Below.refl _ _)⟩
            case round =>
              obtain ⟨j, rfl, hj1, hb11'⟩ := hrel
              obtain ⟨U, hU⟩ : ∃ X, X = wr := ⟨wr, rfl⟩
              subst hU
              have HB11U := Lib.hid hb11'.out; have HCU := Lib.hid (HC11.out.trans (hb11'.out.mono HC11.out.size))
              by_cases hj : (j : Int) < V1
              · obtain ⟨w12, hw12, hb12, hx12, y1, y2⟩ := any_block U #[.string ⟨#[]⟩, .int .i64 0, .int .i64 0, .int .i64 0, .slice none 0 0] 39
                obtain ⟨b12, hb12e⟩ : ∃ b, U.heap.size = b := ⟨_, rfl⟩
                rw [hb12e] at hx12
                obtain ⟨V, hV, hxV, hcV⟩ := five_set hx12 (.string ⟨#[]⟩) (.int .i64 0) (.int .i64 0) (.int .i64 0) (.slice none 0 0)
                have z0 := cell_of_heap hx12 0
                have z1 := cell_of_heap hx12 1
                have z2 := cell_of_heap hx12 2
                have z3 := cell_of_heap hx12 3
                have z4 := cell_of_heap hx12 4
                have zf := frozen_of_heap hx12
                go_upto_region 35 with fail
                try rw [hV]
                have hUV : Below U.heap.size U V := hb12.trans (below_of_ch hcV (fun k hk => by rw [List.mem_singleton.1 hk]; omega) hb12.size)
                have HUV := Lib.hid hUV; have HXV := Lib.hid hxV; have HKV := Lib.hid ((HKA11.out.below hb11'.out).below hUV); have HUB := Lib.hid (show U.heap.size ≤ b12 by omega)
                clear hw12 hb12 hx12 hV hxV hcV hUV z0 z1 z2 z3 z4 zf y1 y2
                go_wp2_with fail
                go_loopw [22, 136] (fun y i wr => ∃ (lv k m : Nat) (C : List Pk) (a : Option Addr) (cc : Nat), y = .int .i64 lv ∧ i = .int .i64 k ∧ k ≤ n ∧ lv ≤ 1100 ∧ m ≤ k ∧ Hid (m = C.length) ∧ Hid (PkRow U.heap.size wr (.slice a m cc) C) ∧ Hid (wr.heap[b12]? = some (.cells #[.string ⟨#[]⟩, .int .i64 0, .int .i64 0, .int .i64 0, .slice a m cc] 39 (0, 0))) ∧ Hid (Below U.heap.size U wr)) (fun _ i _ => n - (intOf i).toNat)
                case atStart => exact ⟨j, 0, 0, [], none, 0, rfl, rfl, Nat.zero_le _, by omega, Nat.le_refl _, Lib.hid rfl, Lib.hid (PkRow.nil _ _), HXV, HUV⟩
                case round =>
                  obtain ⟨lv, k, m, C, a, cc, rfl, rfl, hk4, hlv, hmk, hm4, hrow4, hx4, hb4⟩ := hrel
                  by_cases hl4 : k < n
                  · obtain ⟨L, hL⟩ : ∃ L, Ls[k]? = some L := ⟨_, List.getElem?_eq_getElem (by rw [HKA8.out.1]; exact hl4)⟩
                    have hka := (HKA11.out.below hb11'.out).below hb4.out
                    obtain ⟨gK, cK2, xL, nL, kL, eK, hcK, hnL, hPL, hfl, hmc⟩ := hka.2.2 k L hL
                    subst eK
                    have hn41 : nL ≤ 40 := by omega
                    have HPL4 := Lib.hid hPL; have HNL4 := Lib.hid hnL
                    clear hL hka hPL hnL hfl
                    obtain ⟨R1, hR1⟩ : ∃ x, x = lv % (1 + nL) := ⟨_, rfl⟩
                    obtain ⟨D1, hD1⟩ : ∃ x, x = lv / (1 + nL) := ⟨_, rfl⟩
                    have hr41 : R1 ≤ nL := by have := Nat.mod_lt lv (show 1 + nL > 0 by omega); omega
                    have hd41 : D1 ≤ lv := by rw [hD1]; exact Nat.div_le_self _ _
                    have hrm : ((lv : Int) % (1 + (nL : Int))) = (R1 : Int) := by rw [hR1]; first | rfl | simp | (push_cast; rfl)
                    have hdv : ((lv : Int) / (1 + (nL : Int))) = (D1 : Int) := by rw [hD1]; first | rfl | simp | (push_cast; rfl)
                    clear hR1 hD1
                    rcases R1 with _ | r1
                    · have hng : ¬ (0 : Int) < (lv : Int) % (1 + (nL : Int)) := by rw [hrm]; omega
                      go_wp2_with fail
                      go_roundw
                      case rel => exact ⟨D1, k + 1, m, C, a, cc, by first | go_num | (rw [hdv]; go_num), by go_num, hl4, by omega, by omega, hm4, hrow4, hx4, hb4⟩
                      case measure => simp [intOf]; omega
                    · obtain ⟨q, hq⟩ : ∃ q, L[r1]? = some q := ⟨_, List.getElem?_eq_getElem (by rw [← HNL4.out]; omega)⟩
                      obtain ⟨bq, oq, S, eq9, hS, c0, c1', c2', c3'⟩ := HPL4.out.cells hq
                      obtain ⟨q1, hq1⟩ : ∃ y, y = q.2.1 := ⟨_, rfl⟩
                      obtain ⟨q2, hq2⟩ : ∃ y, y = q.2.2.1 := ⟨_, rfl⟩
                      obtain ⟨q3, hq3⟩ : ∃ y, y = q.2.2.2 := ⟨_, rfl⟩
                      rw [← hq1] at c1'; rw [← hq2] at c2'; rw [← hq3] at c3'
                      subst eq9
                      have hpos : (0 : Int) < ((r1 + 1 : Nat) : Int) := by omega
                      have HSQ4 := Lib.hid (And.intro hS (And.intro hq1 (And.intro hq2 hq3)))
                      clear hq hS hq1 hq2 hq3
                      have hpg : (0 : Int) < (lv : Int) % (1 + (nL : Int)) := by rw [hrm]; omega
                      go_upto_region 42 with fail
                      try rw [hrm]
                      try rw [hdv]
                      clear hrm hdv hpg
                      refine UpV.start [(8, fun W : World => W.cell? ⟨b12, 4, none⟩ = some (.slice a m cc)), (7, fun W : World => W.cell? ⟨bq, oq + r1 * 4, none⟩ = some (.string S) ∧ W.cell? ⟨bq, oq + r1 * 4 + 1, none⟩ = some (.int .i64 q1) ∧ W.cell? ⟨bq, oq + r1 * 4 + 2, none⟩ = some (.int .i64 q2) ∧ W.cell? ⟨bq, oq + r1 * 4 + 3, none⟩ = some (.int .i64 q3))] (by kernel_rfl) ?_
                      obtain ⟨Wd, hWd⟩ : ∃ X, X = wr.drew := ⟨_, rfl⟩
                      rw [← hWd]
                      have hrd : PkRow U.heap.size Wd (.slice a m cc) C := by rw [hWd]; exact hrow4.out
                      have hxd : Wd.heap[b12]? = some (.cells #[.string ⟨#[]⟩, .int .i64 0, .int .i64 0, .int .i64 0, .slice a m cc] 39 (0, 0)) := by rw [hWd]; exact hx4.out
                      have hbd : Below U.heap.size U Wd := by rw [hWd]; exact hb4.out.drew
                      have HRD := Lib.hid hrd; have HXD := Lib.hid hxd; have HBD := Lib.hid hbd
                      have hA0 : ∀ q ∈ ([(8, fun W : World => W.cell? ⟨b12, 4, none⟩ = some (.slice a m cc)), (7, fun W : World => W.cell? ⟨bq, oq + r1 * 4, none⟩ = some (.string S) ∧ W.cell? ⟨bq, oq + r1 * 4 + 1, none⟩ = some (.int .i64 q1) ∧ W.cell? ⟨bq, oq + r1 * 4 + 2, none⟩ = some (.int .i64 q2) ∧ W.cell? ⟨bq, oq + r1 * 4 + 3, none⟩ = some (.int .i64 q3))] : List (Nat × (World → Prop))), q.2 Wd := by
                        intro q hq
                        rcases List.mem_cons.1 hq with rfl | hq
                        · exact cell_of_heap HXD.out 4
                        · obtain rfl := List.mem_singleton.1 hq
                          rw [hWd]
                          exact ⟨c0, c1', c2', c3'⟩
                      clear hrd hxd hbd hWd c0 c1' c2' c3'
                      refine UpV.takeP 0 (v := .pointer (some ⟨b12, 4, none⟩)) rfl (by kernel_rfl) (by kernel_rfl) (by kernel_rfl) (by kernel_rfl) (fun _ _ _ h => h) (Or.inl ⟨by rfl, ?_⟩) (owe_all hA0) ?_
                      · intro w hSw; first | rfl | (go_simp; done)
                      try simp only [Act.put, List.setIfInBounds_toArray, List.set_cons_zero, List.set_cons_succ, List.getElem_toArray, List.getElem_cons_zero, List.getElem_cons_succ]
                      refine UpV.take 1 8 (v := .slice a m cc) rfl (List.mem_cons_self ..) (by kernel_rfl) (by kernel_rfl) (by kernel_rfl) (by kernel_rfl) (by kernel_rfl) (fun _ _ _ h => h) (Or.inl ⟨by rfl, ?_⟩) (owe_all hA0) ?_
                      · intro w hSw; have s0 : w.cell? ⟨b12, 4, none⟩ = some (.slice a m cc) := hSw; go_simp
                      try simp only [Act.put, List.setIfInBounds_toArray, List.set_cons_zero, List.set_cons_succ, List.getElem_toArray, List.getElem_cons_zero, List.getElem_cons_succ]
                      refine UpV.takeP 2 (v := .slice (some ⟨bq, oq, none⟩) nL kL) rfl (by kernel_rfl) (by kernel_rfl) (by kernel_rfl) (by kernel_rfl) (fun _ _ _ h => h) (Or.inl ⟨by rfl, ?_⟩) (owe_all hA0) ?_
                      · intro w hSw; first | rfl | (go_simp; done)
                      try simp only [Act.put, List.setIfInBounds_toArray, List.set_cons_zero, List.set_cons_succ, List.getElem_toArray, List.getElem_cons_zero, List.getElem_cons_succ]
                      refine UpV.takeP 3 (v := .int .i64 ((r1 + 1 : Nat) : Int)) rfl (by kernel_rfl) (by kernel_rfl) (by kernel_rfl) (by kernel_rfl) (fun _ _ _ h => h) (Or.inl ⟨by rfl, ?_⟩) (owe_all hA0) ?_
                      · intro w hSw; first | rfl | (go_simp; done)
                      try simp only [Act.put, List.setIfInBounds_toArray, List.set_cons_zero, List.set_cons_succ, List.getElem_toArray, List.getElem_cons_zero, List.getElem_cons_succ]
                      refine UpV.takeP 4 (v := .int .i64 (r1 : Int)) rfl (by kernel_rfl) (by kernel_rfl) (by kernel_rfl) (by kernel_rfl) (fun _ _ _ h => h) (Or.inl ⟨by rfl, ?_⟩) (owe_all hA0) ?_
                      · intro w hSw
                        have h9 : (((r1 + 1 : Nat) : Int) - 1) = (r1 : Int) := by omega
                        have h10 : ((r1 : Int) + 1 - 1) = (r1 : Int) := by omega
                        first | (go_simp; done) | (go_simp; exact i64_in _ (by omega)) | (go_simp; rw [IntKind.wrap_i64]; omega) | (go_simp; exact Go.i64_in _ (by omega))
                      try simp only [Act.put, List.setIfInBounds_toArray, List.set_cons_zero, List.set_cons_succ, List.getElem_toArray, List.getElem_cons_zero, List.getElem_cons_succ]
                      refine UpV.takeP 5 (v := .pointer (some ⟨bq, oq + r1 * 4, none⟩)) rfl (by kernel_rfl) (by kernel_rfl) (by kernel_rfl) (by kernel_rfl) (fun _ _ _ h => h) (Or.inl ⟨by rfl, ?_⟩) (owe_all hA0) ?_
                      · intro w hSw; first | rfl | (go_simp; done) | (go_simp; intro h; exact absurd (h (by omega)) (by omega)) | (go_simp; omega)
                      try simp only [Act.put, List.setIfInBounds_toArray, List.set_cons_zero, List.set_cons_succ, List.getElem_toArray, List.getElem_cons_zero, List.getElem_cons_succ]
                      refine UpV.take 6 7 (v := .agg #[.string S, .int .i64 q1, .int .i64 q2, .int .i64 q3]) rfl (List.mem_cons_of_mem _ (List.mem_cons_self ..)) (by kernel_rfl) (by kernel_rfl) (by kernel_rfl) (by kernel_rfl) (by kernel_rfl) (fun _ _ _ h => h) (Or.inl ⟨by rfl, ?_⟩) (owe_all hA0) ?_
                      · intro w hSw; obtain ⟨s0, s1, s2, s3⟩ := hSw; go_simp
                      try simp only [Act.put, List.setIfInBounds_toArray, List.set_cons_zero, List.set_cons_succ, List.getElem_toArray, List.getElem_cons_zero, List.getElem_cons_succ]
                      refine UpV.one 7 (by kernel_rfl) rfl ?_
                      intro K hK
                      obtain ⟨v9, hv9, hb9, hx9, z1, z2⟩ := any_block Wd #[.string S, .int .i64 q1, .int .i64 q2, .int .i64 q3] 26
                      obtain ⟨b9, hb9e⟩ : ∃ b, Wd.heap.size = b := ⟨_, rfl⟩
                      rw [hb9e] at hx9
                      have hr9 := HRD.out.below hb9
                      have hx12 := (hb9.block _ (lt_of_heap HXD.out)).trans HXD.out
                      have hsrc9 := src_pk (q := q) HSQ4.out.1 (by rw [← HSQ4.out.2.1, ← HSQ4.out.2.2.1, ← HSQ4.out.2.2.2]; exact hx9)
                      have hb69 := HBD.out.trans (hb9.mono HBD.out.size)
                      have c9 := cell_of_heap hx12 4
                      unfold PkRow at hr9
                      rw [← hm4.out] at hr9
                      have HR9 := Lib.hid hr9; have HSRC9 := Lib.hid hsrc9; have HB69 := Lib.hid hb69; have HX9 := Lib.hid hx12
                      clear hr9 hsrc9 hb69 hb9 hx9 z1 z2 hx12
                      try simp only [List.getElem_toArray, List.getElem_cons_zero, List.getElem_cons_succ]
                      try go_simp
                      try rw [hb9e]
                      try rw [hv9]
                      refine hK.out _ _ (owe2 (fun _ => c9) (fun h => by cases h)) ?_
                      clear hK K hA0
                      try simp only [Act.put, List.setIfInBounds_toArray, List.set_cons_zero, List.set_cons_succ, List.getElem_toArray, List.getElem_cons_zero, List.getElem_cons_succ]
                      refine UpV.one 8 (by kernel_rfl) rfl ?_
                      intro K hK
                      refine step_append_srcs rfl (.tmp 153) (.tmp 159) 28 28 rfl U.heap.size 26 iP _ 4 40 Tryz.underlying28 HI.out.1 HI.out.2.1 HI.out.2.2.1 HI.out.2.2.2 rfl (by decide) (.slice a m cc) (by first | rfl | (simp [Act.eval]; done) | (simp [Act.eval, Act.put]; done)) m (C.flatMap pkL) HR9.out (.slice (some ⟨b9, 0, none⟩) 1 1) (by first | rfl | (simp [Act.eval]; done) | (simp [Act.eval, Act.put]; done)) 1 (pkL q) HSRC9.out (by unfold maxLen; omega) (by omega) HB69.out.size ?_
                      intro aA cA wA hown hgrow _ hblk
                      have hrowA : PkRow U.heap.size wA (.slice aA (m + 1) cA) (C ++ [q]) := PkRow.push hm4.out hown
                      have hbA := below_grownR HB69.out hgrow (fun g hg => (row_base HR9.out g hg).1)
                      have hgA := (hgrow.block b12 (lt_of_heap HX9.out) (fun e => by obtain ⟨c2, h2⟩ := row_kindR HR9.out b12 e.symm; exact cells_ne HX9.out h2 (by decide))).trans HX9.out
                      have cA0 := cell_of_heap hgA 4
                      have fA := frozen_of_heap hgA
                      have HROWA := Lib.hid hrowA; have HBA := Lib.hid hbA; have HGA := Lib.hid hgA
                      clear hown hgrow hblk hrowA hbA hgA c9
                      refine hK.out _ _ (owe2 (fun h => by cases h) (fun h => by cases h)) ?_
                      clear hK K
                      try simp only [Act.put, List.setIfInBounds_toArray, List.set_cons_zero, List.set_cons_succ, List.getElem_toArray, List.getElem_cons_zero, List.getElem_cons_succ]
                      refine UpV.takeP 9 (v := .pointer (some ⟨b12, 4, none⟩)) rfl (by kernel_rfl) (by kernel_rfl) (by kernel_rfl) (by kernel_rfl) (fun _ _ _ h => h) (Or.inl ⟨by rfl, ?_⟩) (owe2 (fun h => by cases h) (fun h => by cases h)) ?_
                      · intro w hSw; first | rfl | (go_simp; done)
                      try simp only [Act.put, List.setIfInBounds_toArray, List.set_cons_zero, List.set_cons_succ, List.getElem_toArray, List.getElem_cons_zero, List.getElem_cons_succ]
                      refine UpV.one 10 (by kernel_rfl) rfl ?_
                      intro K hK
                      try simp only [List.getElem_toArray, List.getElem_cons_zero, List.getElem_cons_succ]
                      try go_simp
                      refine hK.out _ _ (owe2 (fun h => by cases h) (fun h => by cases h)) ?_
                      clear hK K
                      try simp only [Act.put, List.setIfInBounds_toArray, List.set_cons_zero, List.set_cons_succ, List.getElem_toArray, List.getElem_cons_zero, List.getElem_cons_succ]
                      refine UpV.done (by kernel_rfl) ?_
                      have HXN := Lib.hid (set_at 4 (.slice aA (m + 1) cA) HGA.out (ds := #[.string ⟨#[]⟩, .int .i64 0, .int .i64 0, .int .i64 0, .slice aA (m + 1) cA]) (by simp))
                      have HBN := Lib.hid (below_set HBA.out HUB.out 4 (.slice aA (m + 1) cA))
                      have HRN := Lib.hid (show PkRow U.heap.size (wA.setCell ⟨b12, 4, none⟩ (.slice aA (m + 1) cA)) (.slice aA (m + 1) cA) (C ++ [q]) from ownsRow_keep HROWA.out (fun g hg => by
                        obtain ⟨c2, h2⟩ := row_kindR HROWA.out g hg
                        exact Below.heap_setCell _ _ _ _ (fun e => by have e : g = b12 := e; rw [e] at h2; exact cells_ne HGA.out h2 (by decide))))
                      go_wp2_with fail
                      go_roundw
                      case rel => exact ⟨D1, k + 1, m + 1, C ++ [q], aA, cA, by go_num, by go_num, hl4, by omega, by omega, Lib.hid (by rw [List.length_append, hm4.out]; rfl), HRN, HXN, HBN⟩
                      case measure => simp [intOf]; omega
                  · obtain rfl : n = k := by omega
                    obtain ⟨w13, hw13⟩ : ∃ X, X = wr := ⟨wr, rfl⟩
                    subst hw13
                    have h1113 := hb11'.out.trans (hb4.out.mono hb11'.out.size)
                    have G113 := Lib.hid ((h1113.block _ (lt_of_heap G111.out)).trans G111.out); have G413 := Lib.hid ((h1113.block _ (lt_of_heap G411.out)).trans G411.out); have GR13 := Lib.hid ((h1113.block _ (lt_of_heap GR11.out)).trans GR11.out); have HC13 := Lib.hid (HC11.out.trans (h1113.mono HC11.out.size)); have HB13 := Lib.hid (HB11.out.trans (h1113.mono HB11.out.size))
                    have jx0 := cell_of_heap G113.out 0
                    have jx1 := cell_of_heap G113.out 1
                    have jx2 := cell_of_heap G113.out 2
                    have jx3 := cell_of_heap G113.out 3
                    have jx4 := cell_of_heap G113.out 4
                    have jx5 := cell_of_heap G113.out 5
                    have jx6 := cell_of_heap G113.out 6
                    have jx7 := cell_of_heap G113.out 7
                    have js0 := cell_of_heap G413.out 0
                    have js1 := cell_of_heap G413.out 1
                    have jr0 := cell_of_heap GR13.out 0
                    have jr1 := cell_of_heap GR13.out 1
                    have jr2 := cell_of_heap GR13.out 2
                    have jr3 := cell_of_heap GR13.out 3
                    have jr4 := cell_of_heap GR13.out 4
                    have jr5 := cell_of_heap GR13.out 5
                    have jr6 := cell_of_heap GR13.out 6
                    have jr7 := cell_of_heap GR13.out 7
                    have hft := HFT.out w13 HC13.out _ _ _ (HTL.out.below h1113)
                    have HF13 := Lib.hid hft; have HRC4 := Lib.hid hrow4.out; have HXC := Lib.hid hx4.out; have HBU := Lib.hid hb4.out; have HM4 := Lib.hid hm4.out
                    clear hft h1113 hrow4 hx4 hb4 hm4 hl4
                    go_wp2_with fail
                    refine HF13.out.mono ?_
                    rintro e w14 ⟨vF, rfl, hrowF, h14⟩
                    obtain ⟨fs, hfs⟩ : ∃ l, l = st.fits r.tool := ⟨_, rfl⟩
                    rw [← hfs] at hrowF
                    have hfl : fs.length ≤ 40 := by rw [hfs]; have h1 := fits_len st r.tool; have h2 := HFEW.out; omega
                    have hPF := hrowF.at (by omega)
                    obtain ⟨aF, cF, rfl⟩ := hrowF.form
                    obtain ⟨nF, hnF⟩ : ∃ x, x = fs.length := ⟨_, rfl⟩
                    rw [← hnF] at hPF hfl ⊢
                    clear jx0 jx1 jx2 jx3 jx4 jx5 jx6 jx7 js0 js1 jr0 jr1 jr2 jr3 jr4 jr5 jr6 jr7
                    have G114 := Lib.hid ((h14.block _ (lt_of_heap G113.out)).trans G113.out); have G414 := Lib.hid ((h14.block _ (lt_of_heap G413.out)).trans G413.out); have GR14 := Lib.hid ((h14.block _ (lt_of_heap GR13.out)).trans GR13.out); have HC14 := Lib.hid (HC13.out.trans (h14.mono HC13.out.size)); have HB14 := Lib.hid (HB13.out.trans (h14.mono HB13.out.size))
                    have HPF := Lib.hid hPF; have HNF := Lib.hid hnF; have HRC14 := Lib.hid (HRC4.out.below h14); have HXC14 := Lib.hid ((h14.block _ (lt_of_heap HXC.out)).trans HXC.out); have HBU14 := Lib.hid (HBU.out.trans (h14.mono HBU.out.size)); have HLT13 := Lib.hid (lt_of_heap HXC.out)
                    clear hrowF hPF hnF h14 hfs
                    go_wp2_with fail
                    go_loopw [168] (fun x wr => ∃ (k : Nat) (y0 y1 y2 y3 : Value), x = .int .i64 k ∧ k ≤ nF ∧ Hid (wr.heap[b12]? = some (.cells #[y0, y1, y2, y3, .slice a m cc] 39 (0, 0))) ∧ Hid (Ch [b12] w14 wr)) (fun x _ => nF - (intOf x).toNat)
                    case atStart => exact ⟨0, _, _, _, _, rfl, Nat.zero_le _, HXC14, Lib.hid (Ch.refl _ _)⟩
                    case round =>
                      obtain ⟨k5, y0, y1, y2, y3, rfl, hk5, hx5, hc5⟩ := hrel
                      by_cases hl5 : k5 < nF
                      · obtain ⟨q, hq⟩ : ∃ q, fs[k5]? = some q := ⟨_, List.getElem?_eq_getElem (by rw [← HNF.out]; exact hl5)⟩
                        have hp5 : PkgsAt zAll wr (.slice aF nF cF) fs := HPF.out.keep (Keep.of_block (fun _ _ _ => trivial) hc5.out.size (fun b hl hz => hc5.out.block b hl (fun hm => by have h1 := List.mem_singleton.1 hm; have h2 : w13.heap.size ≤ b := hz; have h3 := HLT13.out; omega)))
                        obtain ⟨bq, oq, S, rfl, hS, c0, c1', c2', c3'⟩ := hp5.cells hq
                        obtain ⟨q1, hq1⟩ : ∃ y, y = q.2.1 := ⟨_, rfl⟩
                        obtain ⟨q2, hq2⟩ : ∃ y, y = q.2.2.1 := ⟨_, rfl⟩
                        obtain ⟨q3, hq3⟩ : ∃ y, y = q.2.2.2 := ⟨_, rfl⟩
                        rw [← hq1] at c1'; rw [← hq2] at c2'; rw [← hq3] at c3'
                        obtain ⟨w15, hw15, hb15, hx15, z1, z2⟩ := any_block wr #[.string S, .int .i64 q1, .int .i64 q2, .int .i64 q3] 26
                        obtain ⟨b15, hb15e⟩ : ∃ b, wr.heap.size = b := ⟨_, rfl⟩
                        rw [hb15e] at hx15
                        have hx12 := (hb15.block _ (lt_of_heap hx5.out)).trans hx5.out
                        have hc15 := hc5.out.trans (Ch.of_below hb15 [b12]) (fun x hx => .inl hx)
                        have e1 := set_at 0 (.string S) hx12 (ds := #[.string S, y1, y2, y3, .slice a m cc]) (by simp)
                        have e2 := set_at 1 (.int .i64 q1) e1 (ds := #[.string S, .int .i64 q1, y2, y3, .slice a m cc]) (by simp)
                        have e3 := set_at 2 (.int .i64 q2) e2 (ds := #[.string S, .int .i64 q1, .int .i64 q2, y3, .slice a m cc]) (by simp)
                        have e4 := set_at 3 (.int .i64 q3) e3 (ds := #[.string S, .int .i64 q1, .int .i64 q2, .int .i64 q3, .slice a m cc]) (by simp)
                        have hcV := (((hc15.setCell (p := ⟨b12, 0, none⟩) (.inl (List.mem_singleton_self _)) (.string S)).setCell (p := ⟨b12, 1, none⟩) (.inl (List.mem_singleton_self _)) (.int .i64 q1)).setCell (p := ⟨b12, 2, none⟩) (.inl (List.mem_singleton_self _)) (.int .i64 q2)).setCell (p := ⟨b12, 3, none⟩) (.inl (List.mem_singleton_self _)) (.int .i64 q3)
                        obtain ⟨V5, hV5⟩ : ∃ X, (((w15.setCell ⟨b12, 0, none⟩ (.string S)).setCell ⟨b12, 1, none⟩ (.int .i64 q1)).setCell ⟨b12, 2, none⟩ (.int .i64 q2)).setCell ⟨b12, 3, none⟩ (.int .i64 q3) = X := ⟨_, rfl⟩
                        rw [hV5] at e4 hcV
                        have zz0 := cell_of_heap hx12 0
                        have zz1 := cell_of_heap hx12 1
                        have zz2 := cell_of_heap hx12 2
                        have zz3 := cell_of_heap hx12 3
                        have zz4 := cell_of_heap hx12 4
                        have zzf := frozen_of_heap hx12
                        have k0 := cell_of_heap hx15 0
                        have k1 := cell_of_heap hx15 1
                        have k2 := cell_of_heap hx15 2
                        have k3 := cell_of_heap hx15 3
                        have HCV := Lib.hid hcV; have HE4 := Lib.hid e4; have HSQ5 := Lib.hid (And.intro hS (And.intro hq1 (And.intro hq2 hq3)))
                        clear hq hp5 hS hq1 hq2 hq3 hx15 hb15 e1 e2 e3 e4 hcV hc15 z1 z2
                        go_upto_region 48 with fail
                        try rw [hV5]
                        have hb14V : Below U.heap.size U V5 := HBU14.out.trans (below_of_ch HCV.out (fun k hk => by rw [List.mem_singleton.1 hk]; exact HUB.out) HBU14.out.size)
                        have hb3V : Below w3.heap.size w3 V5 := HC14.out.trans (below_of_ch HCV.out (fun k hk => by rw [List.mem_singleton.1 hk]; have h1 := HUB.out; have h2 := HCU.out.size; omega) HC14.out.size)
                        have hbwV : Below w.heap.size w V5 := HB14.out.trans (below_of_ch HCV.out (fun k hk => by rw [List.mem_singleton.1 hk]; have h1 := HUB.out; have h2 := HCU.out.size; have h3 := HB3.out.size; omega) HB14.out.size)
                        have hpc : PkgsAt zAll V5 (.slice a m cc) C := PkRow.all (ownsRow_keep HRC14.out (fun g hg => HCV.out.block g (row_base HRC14.out g hg).2 (fun hm => by
                          obtain ⟨c2, h2⟩ := row_kindR HRC14.out g hg
                          rw [List.mem_singleton.1 hm] at h2
                          exact cells_ne HXC14.out h2 (by decide)))) (by rw [← HM4.out]; omega)
                        have hh := HH.out V5 hb3V q C _ hpc (by rw [← HM4.out]; omega)
                        rw [HSQ5.out.1, ← HSQ5.out.2.1, ← HSQ5.out.2.2.1, ← HSQ5.out.2.2.2, HNO.out (q, C)] at hh
                        have g1v := (hb14V.block _ (Nat.lt_of_lt_of_le (lt_of_heap G111.out) HB11U.out.size)).trans ((HB11U.out.block _ (lt_of_heap G111.out)).trans G111.out)
                        have g4v := (hb14V.block _ (Nat.lt_of_lt_of_le (lt_of_heap G411.out) HB11U.out.size)).trans ((HB11U.out.block _ (lt_of_heap G411.out)).trans G411.out)
                        have HHV := Lib.hid hh; have HBWV := Lib.hid hbwV; have G1V := Lib.hid g1v; have G4V := Lib.hid g4v
                        clear hb14V hb3V hbwV hpc hh g1v g4v zz0 zz1 zz2 zz3 zz4 zzf k0 k1 k2 k3 hx12 c0 c1' c2' c3' hV5
                        have z0 := cell_of_heap HE4.out 0
                        have z1 := cell_of_heap HE4.out 1
                        have z2 := cell_of_heap HE4.out 2
                        have z3 := cell_of_heap HE4.out 3
                        have z4 := cell_of_heap HE4.out 4
                        have jx0 := cell_of_heap G1V.out 0
                        have jx1 := cell_of_heap G1V.out 1
                        have jx2 := cell_of_heap G1V.out 2
                        have jx3 := cell_of_heap G1V.out 3
                        have jx4 := cell_of_heap G1V.out 4
                        have jx5 := cell_of_heap G1V.out 5
                        have jx6 := cell_of_heap G1V.out 6
                        have jx7 := cell_of_heap G1V.out 7
                        have js0 := cell_of_heap G4V.out 0
                        have js1 := cell_of_heap G4V.out 1
                        go_wp2_with fail
                        refine HHV.out.mono ?_
                        rintro e w16 ⟨rfl, h16⟩
                        have HX16 := Lib.hid ((h16.block _ (lt_of_heap HE4.out)).trans HE4.out); have HC16 := Lib.hid (HCV.out.trans (Ch.of_below h16 [b12]) (fun x hx => .inl hx))
                        clear h16
                        go_wp2_with fail
                        go_roundw
                        case rel => exact ⟨k5 + 1, _, _, _, _, by go_num, hl5, HX16, HC16⟩
                        case measure => simp [intOf]; omega
                      · have hbUw : Below U.heap.size U wr := HBU14.out.trans (below_of_ch hc5.out (fun k hk => by rw [List.mem_singleton.1 hk]; exact HUB.out) HBU14.out.size)
                        have HBF := Lib.hid (HB11U.out.trans (hbUw.mono HB11U.out.size))
                        clear hbUw
                        go_wp2_with fail
                        go_roundw
                        case rel => exact ⟨j + 1, by go_num, by omega, HBF⟩
                        case measure => simp [intOf]; omega
              · go_wp2_with fail
                go_ret
                exact ⟨rfl, HB11.out.trans (hb11'.out.mono HB11.out.size)⟩
  · have hne : ((e0 : Int) == 12) = false := by simp; exact he
    go_wp2_with fail
    go_ret
    exact ⟨rfl, HB5.out⟩
end Go.Proofs.YtnbeklmjinnbaaaGreat
