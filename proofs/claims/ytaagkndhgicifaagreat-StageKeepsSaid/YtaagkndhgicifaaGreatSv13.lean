/- DERIVED. Texts of this claim, put together: RStkF, RStkG. -/
import Derived.Test.YtaagkndhgicifaaGreatRStkE
namespace Go.Proofs.YtaagkndhgicifaaGreat
set_option maxHeartbeats 32000000
open Go.RowKit
set_option linter.unusedVariables false
set_option linter.unusedSimpArgs false
set_option maxRecDepth 100000
theorem rwill_any (w : World) (Z : Zone) (v0 v1 : Value) (d : Dp) (h : DepAt Z w v0 v1 d) (p : Pk) :
  Calls Tryz.prog 51 #[.agg #[v0, v1], .agg #[strV p.1, .int .i64 p.2.1, .int .i64 p.2.2.1, .int .i64 p.2.2.2]] w (fun e w' => e = .returned (.bool (willB d p)) ∧ Below w.heap.size w w') := by
 have h0 := h
 obtain ⟨rfl, hl, hg⟩ := h0
 have hg' := hg
 obtain ⟨a, c, rfl, -⟩ := hg'
 obtain ⟨S, -, hS, hS2, -⟩ := strV_is d.1
 obtain ⟨T, -, hT, hT2, -⟩ := strV_is p.1
 have he := str_eqb T S p.1 d.1 hT2 hS2
 rw [hS, hT]
 obtain ⟨w0, hw0, hb0, hx0, y1, y2⟩ := aBk w #[.string S, .slice a d.2.length c] 59
 have hhs := fun W (hW : Below w0.heap.size w0 W) => rhas_any W Z _ d.2 p.2 ((hg.below hb0).below hW)
 obtain ⟨n, hn⟩ : ∃ n, n = d.2.length := ⟨_, rfl⟩
 rw [← hn] at hhs hx0 hw0 ⊢
 obtain ⟨R, hR⟩ : ∃ R, R = willB d p := ⟨_, rfl⟩
 rw [← hR]
 unfold willB at hR
 obtain ⟨k1, hk1⟩ : ∃ k, k = decide (p.1 = d.1) := ⟨_, rfl⟩
 obtain ⟨k2, hk2⟩ : ∃ k, k = spanHas d.2 p.2 := ⟨_, rfl⟩
 rw [← hk1] at he hR; rw [← hk2] at hhs hR
 obtain ⟨p1, hp1⟩ : ∃ x, p.2.1 = x := ⟨_, rfl⟩
 obtain ⟨p2, hp2⟩ : ∃ x, p.2.2.1 = x := ⟨_, rfl⟩
 obtain ⟨p3, hp3⟩ : ∃ x, p.2.2.2 = x := ⟨_, rfl⟩
 rw [hp1, hp2, hp3] at hhs ⊢
 obtain ⟨w1, hw1, hb1, hx1, y3, y4⟩ := aBk w0 #[.string T, .int .i64 p1, .int .i64 p2, .int .i64 p3] 41
 obtain ⟨B1, hB1⟩ : ∃ b, w0.heap.size = b := ⟨_, rfl⟩
 have g0 := (hb1.block _ (by omega)).trans hx0
 rw [hB1] at hx1
 obtain ⟨s0, s1⟩ := cells2 g0
 obtain ⟨e0, e1, e2, e3⟩ := cells4 hx1
 have HHS := hdL (hhs w1 hb1); have HR := hdL hR; have HB := hdL (hb0.trans (hb1.mono hb0.size))
 clear h hg hl hS hS2 hT hT2 hhs hR hk1 hk2 hp1 hp2 hp3 hn hb0 hb1 hx0 hx1 g0 y1 y2 y3 y4
 cases k1
 ·go_enter Tryz.func51, Tryz.ntmps51
  go_wp2_with fail
  go_ret
  exact ⟨by rw [HR.out]; rfl, HB.out⟩
 ·go_enter Tryz.func51, Tryz.ntmps51
  go_wp2_with fail
  refine HHS.out.mono ?_
  rintro e w2 ⟨rfl, h2⟩
  have H2 := hdL (HB.out.trans (h2.mono HB.out.size))
  clear h2
  go_wp2_with fail
  go_ret
  exact ⟨by rw [HR.out]; rfl, H2.out⟩
theorem foldl_len (l : List Pk) : ∀ s : List Pk, (l.foldl withL s).length ≤ s.length + l.length := by
 induction l with
 | nil => intro s; simp
 | cons p l ih =>
  intro s
  have := ih (withL s p)
  have := withL_len s p
  rw [List.foldl_cons, List.length_cons]
  omega
theorem foldl_next {ps : List Pk} {k : Nat} {q : Pk} (h : ps[k]? = some q) (s : List Pk) : (ps.take (k + 1)).foldl withL s = withL ((ps.take k).foldl withL s) q := by
 rw [List.take_add_one, h, List.foldl_append]
 rfl
theorem rall_any (w : World) (Z : Zone) (v : Value) (st : St) (h : RefAt Z w v st) (hs : st.seeds.length ≤ 1000) (hr : st.recs.length ≤ 1000) :
  Calls Tryz.prog 24 #[v] w (fun e w' => ∃ v', e = .returned v' ∧ PkRow w.heap.size w' v' st.all ∧ Below w.heap.size w w') := by
 obtain ⟨a1, c1, a2, c2, rfl, hp1, hp2⟩ := h.form
 obtain ⟨ps, hps⟩ : ∃ ps, ps = st.seeds := ⟨_, rfl⟩
 obtain ⟨rs, hrs⟩ : ∃ rs, rs = st.recs := ⟨_, rfl⟩
 have hall : st.all = (rs.map Rc.pkg).foldl withL (ps.foldl withL []) := by
  unfold St.all sortP St.pkgs
  rw [List.foldl_append, hps, hrs]
 rw [hall]
 rw [← hps] at hp1 hs ⊢
 rw [← hrs] at hp2 hr ⊢
 obtain ⟨n, hn⟩ : ∃ n, n = ps.length := ⟨_, rfl⟩
 obtain ⟨n2, hn2⟩ : ∃ n, n = rs.length := ⟨_, rfl⟩
 rw [← hn] at hp1 hs ⊢
 rw [← hn2] at hp2 hr ⊢
 obtain ⟨w1, hw1, hb1, hx1, y1, y2⟩ := aBk w #[.slice a1 n c1, .slice a2 n2 c2] 28
 have HX := hdL hx1; have HB := hdL hb1; have HN := hdL hn; have HN2 := hdL hn2; have HP1 := hdL hp1; have HP2 := hdL hp2
 obtain ⟨s0, s1⟩ := cells2 hx1
 clear h hx1 hb1 hn hn2 hp1 hp2 hps hrs hall
 go_enter Tryz.func24, Tryz.ntmps24
 go_wp2_with fail
 go_loopw [3, 11] (fun x i wr => ∃ (k m : Nat) (L : List Pk) (a : Option Addr) (c : Nat), x = .slice a m c ∧ i = .int .i64 k ∧ k ≤ n ∧ Hid (m = L.length) ∧ Hid (L = (ps.take k).foldl withL []) ∧ Hid (PkRow w1.heap.size wr (.slice a m c) L) ∧ Hid (Below w1.heap.size w1 wr)) (fun _ i _ => n - (intOf i).toNat)
 case atStart => exact ⟨0, 0, [], none, 0, rfl, rfl, Nat.zero_le _, hdL rfl, hdL rfl, hdL (PkRow.nil _ _), hdL (Below.refl _ _)⟩
 case round =>
  obtain ⟨k, m, L, a, c, rfl, rfl, hkn, hm, hL, hrow, hbw⟩ := hrel
  have H0 := hdL (HB.out.trans (hbw.out.mono HB.out.size))
  by_cases hlt : k < n
  ·obtain ⟨q, hq⟩ : ∃ q, ps[k]? = some q := ⟨_, gEg (by rw [← HN.out]; exact hlt)⟩
   obtain ⟨b, o, S, rfl, hS, d0, d1, d2, d3⟩ := (HP1.out.below H0.out).cells hq
   have hnx := foldl_next hq []
   have hLl : L.length ≤ 100000 := by
    rw [hL.out]
    refine Nat.le_trans (foldl_len _ _) ?_
    simp only [List.length_take, List.length_nil]; omega
   have hwi := fun W (hW : Below wr.heap.size wr W) => rwith_any W _ (.slice a m c) L ((hrow.out.below hW).at (by omega)) hLl q
   rw [hS] at hwi
   obtain ⟨q1, hq1⟩ : ∃ x, q.2.1 = x := ⟨_, rfl⟩
   obtain ⟨q2, hq2⟩ : ∃ x, q.2.2.1 = x := ⟨_, rfl⟩
   obtain ⟨q3, hq3⟩ : ∃ x, q.2.2.2 = x := ⟨_, rfl⟩
   rw [hq1] at d1; rw [hq2] at d2; rw [hq3] at d3
   simp only [hq1, hq2, hq3] at hwi
   obtain ⟨w3, hw3, hb3, hx3, z1, z2⟩ := aBk wr #[.string S, .int .i64 q1, .int .i64 q2, .int .i64 q3] 41
   obtain ⟨k0, k1, k2, k3⟩ := cells4 hx3
   have HWI := hdL (hwi w3 hb3); have H3 := hdL (hbw.out.trans (hb3.mono hbw.out.size)); have HNX := hdL hnx
   clear hwi hb3 hx3 hq hS hq1 hq2 hq3 hnx hLl z1 z2
   go_wp2_with fail
   refine HWI.out.mono ?_
   rintro e w4 ⟨v', rfl, hr4, h4⟩
   obtain ⟨a', c', rfl⟩ := hr4.form
   have H4 := hdL (H3.out.trans (h4.mono H3.out.size))
   obtain ⟨m', hm'⟩ : ∃ m, m = (withL L q).length := ⟨_, rfl⟩
   have HR4 := hdL (show PkRow w1.heap.size w4 (.slice a' m' c') (withL L q) by rw [hm']; exact row_mono hr4 H3.out.size)
   rw [← hm']
   have HM := hdL hm'
   clear hr4 h4 hm' k0 k1 k2 k3
   go_wp2_with fail
   go_roundw
   case rel => exact ⟨k + 1, m', withL L q, a', c', rfl, by go_num, hlt, HM, hdL (by rw [HNX.out, ← hL.out]), HR4, H4⟩
   case measure => simp [intOf]; omega
  ·obtain rfl : k = n := by omega
   have hL2 := hL.out
   rw [tLe (by rw [← HN.out]; exact Nat.le_refl _)] at hL2
   have HL2 := hdL hL2
   clear hL2
   have g1 := (hbw.out.block _ (loh HX.out)).trans HX.out
   have s1 := cOh g1 1
   obtain ⟨L0, hL0⟩ : ∃ L0, L0 = ps.foldl withL [] := ⟨_, rfl⟩
   have HLL := hdL hL0
   have HL0 := hdL (show L0.length ≤ 1000 by rw [hL0]; refine Nat.le_trans (foldl_len _ _) ?_; rw [← HN.out]; simp; omega)
   have hLL0 : L = L0 := by rw [HL2.out, hL0]
   rw [hLL0] at hm hrow
   clear hL0 g1 hlt hkn hL HL2 hLL0
   go_wp2_with fail
   go_loopw [3, 22] (fun x i wr => ∃ (k m : Nat) (L : List Pk) (a : Option Addr) (c : Nat), x = .slice a m c ∧ i = .int .i64 k ∧ k ≤ n2 ∧ Hid (m = L.length) ∧ Hid (L = ((rs.map Rc.pkg).take k).foldl withL L0) ∧ Hid (PkRow w1.heap.size wr (.slice a m c) L) ∧ Hid (Below w1.heap.size w1 wr)) (fun _ i _ => n2 - (intOf i).toNat)
   case atStart => exact ⟨0, m, L0, a, c, rfl, rfl, Nat.zero_le _, hm, hdL rfl, hrow, hbw⟩
   case round =>
    clear hrow hbw hm H0
    obtain ⟨k, m, L, a, c, rfl, rfl, hkn, hm, hL, hrow, hbw⟩ := hrel
    have H0 := hdL (HB.out.trans (hbw.out.mono HB.out.size))
    by_cases hlt : k < n2
    ·obtain ⟨r, hqr⟩ : ∃ r, rs[k]? = some r := ⟨_, gEg (by rw [← HN2.out]; exact hlt)⟩
     obtain ⟨b, o, S, t, r1, m1, d1', r2, m2, d2', r3, m3, d3', rfl, hS, -, d0, d1, d2, d3, d4, d5, d6, d7⟩ := (HP2.out.below H0.out).cells hqr
     obtain ⟨q, hqe⟩ : ∃ q, q = r.pkg := ⟨_, rfl⟩
     rw [← hqe] at hS d1 d2 d3
     have hq : (rs.map Rc.pkg)[k]? = some q := by rw [List.getElem?_map, hqr, hqe]; rfl
     have hnx := foldl_next hq L0
     clear hqr hqe
     have hLl : L.length ≤ 100000 := by
      rw [hL.out]
      refine Nat.le_trans (foldl_len _ _) ?_
      have := HL0.out
      simp only [List.length_take]; omega
     have hwi := fun W (hW : Below wr.heap.size wr W) => rwith_any W _ (.slice a m c) L ((hrow.out.below hW).at (by omega)) hLl q
     rw [hS] at hwi
     obtain ⟨q1, hq1⟩ : ∃ x, q.2.1 = x := ⟨_, rfl⟩
     obtain ⟨q2, hq2⟩ : ∃ x, q.2.2.1 = x := ⟨_, rfl⟩
     obtain ⟨q3, hq3⟩ : ∃ x, q.2.2.2 = x := ⟨_, rfl⟩
     rw [hq1] at d1; rw [hq2] at d2; rw [hq3] at d3
     simp only [hq1, hq2, hq3] at hwi
     obtain ⟨w3, hw3, hb3, hx3, z1, z2⟩ := aBk wr #[.string S, .int .i64 q1, .int .i64 q2, .int .i64 q3, .string t, .slice r1 m1 d1', .slice r2 m2 d2', .slice r3 m3 d3'] 62
     obtain ⟨k0, k1, k2, k3⟩ := cells4 hx3
     have HWI := hdL (hwi w3 hb3); have H3 := hdL (hbw.out.trans (hb3.mono hbw.out.size)); have HNX := hdL hnx
     clear hwi hb3 hx3 hq hS hq1 hq2 hq3 hnx hLl z1 z2
     go_wp2_with fail
     refine HWI.out.mono ?_
     rintro e w4 ⟨v', rfl, hr4, h4⟩
     obtain ⟨a', c', rfl⟩ := hr4.form
     have H4 := hdL (H3.out.trans (h4.mono H3.out.size))
     obtain ⟨m', hm'⟩ : ∃ m, m = (withL L q).length := ⟨_, rfl⟩
     have HR4 := hdL (show PkRow w1.heap.size w4 (.slice a' m' c') (withL L q) by rw [hm']; exact row_mono hr4 H3.out.size)
     rw [← hm']
     have HM := hdL hm'
     clear hr4 h4 hm' k0 k1 k2 k3
     go_wp2_with fail
     go_roundw
     case rel => exact ⟨k + 1, m', withL L q, a', c', rfl, by go_num, hlt, HM, hdL (by rw [HNX.out, ← hL.out]), HR4, H4⟩
     case measure => simp [intOf]; omega
    ·obtain rfl : k = n2 := by omega
     have hL2 := hL.out
     rw [tLe (by rw [List.length_map, ← HN2.out]; exact Nat.le_refl _)] at hL2
     have HL2 := hdL hL2
     clear hL2
     go_wp2_with fail
     go_ret
     refine ⟨_, rfl, ?_, H0.out⟩
     rw [← HLL.out, ← HL2.out]
     exact row_mono hrow.out HB.out.size
theorem fitR_yes {ps : List Pk} {f : Pk → Bool} {k : Nat} {q : Pk} (h : ps[k]? = some q) (hf : f q = true) : ((ps.take (k + 1)).filter f).reverse = q :: ((ps.take k).filter f).reverse := by
 rw [filt_yes h hf, List.reverse_append]
 rfl
theorem all_len (st : St) : st.all.length ≤ st.seeds.length + st.recs.length := by
 unfold St.all sortP St.pkgs
 refine Nat.le_trans (foldl_len _ _) ?_
 simp
theorem PkRow.head {base m : Nat} {w : World} {v : Value} {L : List Pk} {q : Pk} (hm : m = L.length) (h : w.ownsRow base 41 4 v (1 + m) (pkL q ++ L.flatMap pkL)) : PkRow base w v (q :: L) := by
 unfold PkRow
 rw [List.length_cons, ← hm, Nat.add_comm m 1]
 simpa using h
theorem owns_oneP {w : World} {base b : Nat} {q : Pk} {S : ByteArray} (hS : strV q.1 = .string S) (hb : base ≤ b) (h : w.heap[b]? = some (.cells #[.string S, .int .i64 q.2.1, .int .i64 q.2.2.1, .int .i64 q.2.2.2] 41 (0, 0))) : w.ownsRow base 41 4 (.slice (some ⟨b, 0, none⟩) 1 1) 1 (pkL q) := by
 refine ⟨by rw [pkL_len], .inr ⟨b, 1, _, rfl, hb, h, Nat.le_refl _, by unfold maxLen; omega, by simp, ?_⟩⟩
 unfold pkL
 rw [hS]
 simp
theorem rfits_any (w : World) (Z : Zone) (v : Value) (st : St) (h : RefAt Z w v st) (hs : st.seeds.length ≤ 1000) (hr : st.recs.length ≤ 1000) (Z2 : Zone) (v0 v1 : Value) (d : Dp) (hd : DepAt Z2 w v0 v1 d) :
  Calls Tryz.prog 92 #[v, .agg #[v0, v1]] w (fun e w' => ∃ v', e = .returned v' ∧ PkRow w.heap.size w' v' (st.fits d) ∧ Below w.heap.size w w') := by
 have hal := fun W (hW : Below w.heap.size w W) => rall_any W Z v st (h.below hW) hs hr
 obtain ⟨a1, c1, a2, c2, rfl, -, -⟩ := h.form
 have hdg := hd
 obtain ⟨rfl, -, hg⟩ := hdg
 have hg' := hg
 obtain ⟨ag, cg, rfl, -⟩ := hg'
 obtain ⟨D, -, hD, hD2, -⟩ := strV_is d.1
 have hhs := fun W (hW : Below w.heap.size w W) (u : Ver) => rhas_any W Z2 _ d.2 u (hg.below hW)
 obtain ⟨n1, hn1⟩ : ∃ n, n = st.seeds.length := ⟨_, rfl⟩
 obtain ⟨n2, hn2⟩ : ∃ n, n = st.recs.length := ⟨_, rfl⟩
 obtain ⟨ng, hng⟩ : ∃ n, n = d.2.length := ⟨_, rfl⟩
 have hlen := all_len st
 rw [← hn1, ← hn2] at hal hlen ⊢
 rw [← hn1] at hs
 rw [← hn2] at hr
 rw [← hng] at hhs ⊢
 rw [hD]
 unfold St.fits
 obtain ⟨ps, hps⟩ : ∃ ps, ps = st.all := ⟨_, rfl⟩
 rw [← hps] at hal hlen ⊢
 obtain ⟨iP, hiP, hzP0, hzP1, hzP2⟩ := info_parts infoPkg
 have HI := hdL (And.intro hiP (And.intro hzP0 (And.intro hzP1 hzP2)))
 obtain ⟨w0, hw0, hb0, hx0, y1, y2⟩ := aBk w #[.slice a1 n1 c1, .slice a2 n2 c2] 28
 obtain ⟨w1, hw1, hb1, hx1, y3, y4⟩ := aBk w0 #[.string D, .slice ag ng cg] 59
 obtain ⟨B1, hB1⟩ : ∃ b, w0.heap.size = b := ⟨_, rfl⟩
 have g0 := (hb1.block _ (by omega)).trans hx0
 rw [hB1] at hx1
 have hb01 := hb0.trans (hb1.mono hb0.size)
 obtain ⟨s0, s1⟩ := cells2 g0
 obtain ⟨n, hn⟩ : ∃ n, n = ps.length := ⟨_, rfl⟩
 rw [← hn] at hlen
 have hnl : n ≤ 2000 := by omega
 have HAL := hdL (hal w1 hb01); have HB := hdL hb01; have HX := hdL hx1; have HN := hdL hn; have HHS := hdL hhs; have HD := hdL hD2
 clear hal hhs hb0 hb1 hb01 hx0 hx1 g0 hD hD2 hd hg h hn1 hn2 hng hps hn hlen hiP hzP0 hzP1 hzP2 y1 y2 y3 y4
 go_enter Tryz.func92, Tryz.ntmps92
 go_wp2_with fail
 refine HAL.out.mono ?_
 rintro e w2 ⟨v', rfl, hrow, h2⟩
 obtain ⟨aA, cA, rfl⟩ := hrow.form
 rw [← HN.out] at hrow ⊢
 have hX2 := (h2.block _ (loh HX.out)).trans HX.out
 have HPA := hdL (PkRow.at hrow (by rw [← HN.out]; omega)); have HB2 := hdL (HB.out.trans (h2.mono HB.out.size)); have HX2 := hdL hX2
 clear hrow h2 hX2 s0 s1
 go_wp2_with fail
 go_loopw [5, 11] (fun x i wr => ∃ (k m : Nat) (L : List Pk) (a : Option Addr) (c : Nat), x = .slice a m c ∧ i = .int .i64 k ∧ k ≤ n ∧ m ≤ k ∧ Hid (m = L.length) ∧ Hid (L = ((ps.take k).filter (willB d)).reverse) ∧ Hid (PkRow w2.heap.size wr (.slice a m c) L) ∧ Hid (Below w2.heap.size w2 wr)) (fun _ i _ => n - (intOf i).toNat)
 case atStart => exact ⟨0, 0, [], none, 0, rfl, rfl, Nat.zero_le _, Nat.zero_le _, hdL rfl, hdL rfl, hdL (PkRow.nil _ _), hdL (Below.refl _ _)⟩
 case round =>
  obtain ⟨k, m, L, a, c, rfl, rfl, hkn, hmk, hm, hL, hrow, hbw⟩ := hrel
  have H0 := hdL (HB2.out.trans (hbw.out.mono HB2.out.size))
  by_cases hlt : k < n
  ·obtain ⟨q, hq⟩ : ∃ q, ps[k]? = some q := ⟨_, gEg (by rw [← HN.out]; exact hlt)⟩
   obtain ⟨b, o, S, rfl, hS, c0, c1, c2, c3⟩ := (HPA.out.below hbw.out).cells hq
   obtain ⟨S', -, hS', hS2, -⟩ := strV_is q.1
   obtain rfl : S = S' := by rw [hS] at hS'; injection hS'
   have he := str_eqb S D q.1 d.1 hS2 HD.out
   have hwb : willB d q = (decide (q.1 = d.1) && spanHas d.2 q.2) := rfl
   have hfy := fitR_yes (f := willB d) hq
   have hfn := filt_no (f := willB d) hq
   have hh := fun W (hW : Below w.heap.size w W) => HHS.out W hW q.2
   obtain ⟨q1, hq1⟩ : ∃ x, x = q.2.1 := ⟨_, rfl⟩
   obtain ⟨q2, hq2⟩ : ∃ x, x = q.2.2.1 := ⟨_, rfl⟩
   obtain ⟨q3, hq3⟩ : ∃ x, x = q.2.2.2 := ⟨_, rfl⟩
   rw [← hq1] at c1; rw [← hq2] at c2; rw [← hq3] at c3
   simp only [← hq1, ← hq2, ← hq3] at hh
   have hx := (hbw.out.block _ (loh HX2.out)).trans HX2.out
   obtain ⟨w3, hw3, hb3, hx3, z1, z2⟩ := aBk wr #[.string S, .int .i64 q1, .int .i64 q2, .int .i64 q3] 41
   obtain ⟨b3, hb3e⟩ : ∃ b, wr.heap.size = b := ⟨_, rfl⟩
   rw [hb3e] at hx3
   have hy := (hb3.block _ (loh hx)).trans hx
   obtain ⟨e0, e1⟩ := cells2 hy
   obtain ⟨k0, k1, k2, k3⟩ := cells4 hx3
   have H3 := hdL (hbw.out.trans (hb3.mono hbw.out.size)); have HR3 := hdL (hrow.out.below hb3); have HX3 := hdL hx3; have HS := hdL (And.intro hS (And.intro hq1 (And.intro hq2 hq3)))
   have HFY := hdL hfy; have HFN := hdL hfn
   obtain ⟨t1, hk1⟩ : ∃ b, b = decide (q.1 = d.1) := ⟨_, rfl⟩
   obtain ⟨t2, hk2⟩ : ∃ b, b = spanHas d.2 q.2 := ⟨_, rfl⟩
   rw [← hk1] at he hwb; rw [← hk2] at hwb hh
   have HH := hdL (hh w3 (HB2.out.trans (H3.out.mono HB2.out.size))); have HWB := hdL hwb
   clear hq hS hS' hS2 hq1 hq2 hq3 hx3 hb3 hh hfy hfn hk1 hk2 hwb hx hy z1 z2
   cases t1
   ·have HF := hdL (HFN.out (by rw [HWB.out]; rfl))
    go_wp2_with fail
    go_roundw
    case rel => exact ⟨k + 1, m, L, a, c, rfl, by go_num, hlt, by omega, hm, hdL (by rw [HF.out]; exact hL.out), HR3, H3⟩
    case measure => simp [intOf]; omega
   ·go_wp2_with fail
    refine HH.out.mono ?_
    rintro e w4 ⟨rfl, h4⟩
    have H4 := hdL (H3.out.trans (h4.mono H3.out.size))
    have hx4 := (h4.block _ (loh HX3.out)).trans HX3.out
    have hr4 := HR3.out.below h4
    obtain ⟨k0, k1, k2, k3⟩ := cells4 hx4
    cases t2
    ·have HF := hdL (HFN.out (by rw [HWB.out]; rfl))
     have HR4 := hdL hr4
     clear hx4 hr4 h4 e0 e1
     go_wp2_with fail
     go_roundw
     case rel => exact ⟨k + 1, m, L, a, c, rfl, by go_num, hlt, by omega, hm, hdL (by rw [HF.out]; exact hL.out), HR4, H4⟩
     case measure => simp [intOf]; omega
    ·have HF := hdL (HFY.out (by rw [HWB.out]; rfl))
     obtain ⟨w5, hw5, hb5, hx5, z1, z2⟩ := aBk w4 #[.string S, .int .i64 q1, .int .i64 q2, .int .i64 q3] 41
     obtain ⟨b5, hb5e⟩ : ∃ b, w4.heap.size = b := ⟨_, rfl⟩
     rw [hb5e] at hx5
     have H5 := hdL (H4.out.trans (hb5.mono H4.out.size))
     have HONE := hdL (owns_oneP (base := w2.heap.size) (b := b5) (q := q) HS.out.1 (by rw [← hb5e]; exact H4.out.size) (by rw [← HS.out.2.1, ← HS.out.2.2.1, ← HS.out.2.2.2]; exact hx5))
     have hrb := hr4.below hb5
     have hsrc := ((PkRow.at hrb (by have := hm.out; omega)).src)
     rw [← hm.out] at hsrc
     have HSRC := hdL hsrc
     have HBE := hdL (show w2.heap.size ≤ b5 by rw [← hb5e]; exact H4.out.size)
     clear h4 hx4 hr4 hb5 hx5 hrb hsrc z1 z2 e0 e1
     go_wp2_with (first | (at_builtin; refine wpList_append_srcs rfl (.tmp 28) (.tmp 29) 22 22 rfl w2.heap.size 41 iP _ 4 40 Tryz.underlying22 HI.out.1 HI.out.2.1 HI.out.2.2.1 HI.out.2.2.2 rfl (by decide) (.slice (some ⟨b5, 0, none⟩) 1 1) rfl 1 _ HONE.out (.slice a m c) rfl m (L.flatMap pkL) HSRC.out (by unfold maxLen; omega) (by omega) H5.out.size ?_; intro a' c' w6 hown hgrow _ _; have HOWN := hdL hown; have HGROW := hdL hgrow; clear hown hgrow) | fail)
     go_roundw
     case rel => exact ⟨k + 1, 1 + m, q :: L, a', c', rfl, by go_num, hlt, by omega, hdL (by rw [List.length_cons, hm.out]; omega), hdL (by rw [HF.out, ← hL.out]), hdL (PkRow.head hm.out HOWN.out), hdL (below_grownR (v := .slice (some ⟨b5, 0, none⟩) 1 1) H5.out HGROW.out (fun g hg => (by simpa [Value.ownBlock] using hg : b5 = g) ▸ HBE.out))⟩
     case measure => simp [intOf]; omega
  ·obtain rfl : k = n := by omega
   have hL2 := hL.out
   rw [tLe (by rw [← HN.out]; exact Nat.le_refl _)] at hL2
   have HL2 := hdL hL2
   clear hL2
   go_wp2_with fail
   go_ret
   refine ⟨_, rfl, ?_, H0.out⟩
   rw [← HL2.out]
   have := hrow.out
   unfold PkRow at this ⊢
   exact row_mono this HB2.out.size
theorem rfitsP_any (w : World) (Z : Zone) (v : Value) (st : St) (h : RefAt Z w v st) (hs : st.seeds.length ≤ 1000) (hr : st.recs.length ≤ 1000) (Zp : Zone) (vp : Value) (pool : List Pk) (hpl : PkgsAt Zp w vp pool) (Z2 : Zone) (v0 v1 : Value) (d : Dp) (hd : DepAt Z2 w v0 v1 d) :
  Calls Tryz.prog 54 #[v, vp, .agg #[v0, v1]] w (fun e w' => ∃ v', e = .returned v' ∧ PkRow w.heap.size w' v' (st.fitsP pool d) ∧ Below w.heap.size w w') := by
 have hft := fun W (hW : Below w.heap.size w W) => rfits_any W Z v st (h.below hW) hs hr Z2 v0 v1 d (hd.below hW)
 obtain ⟨a1, c1, a2, c2, rfl, -, -⟩ := h.form
 have hdg := hd
 obtain ⟨rfl, -, ag, cg, rfl, -⟩ := hdg
 have hpl' := hpl
 obtain ⟨ap, cp, rfl, -⟩ := hpl'
 obtain ⟨D, -, hD, hD2, -⟩ := strV_is d.1
 obtain ⟨n1, hn1⟩ : ∃ n, n = st.seeds.length := ⟨_, rfl⟩
 obtain ⟨n2, hn2⟩ : ∃ n, n = st.recs.length := ⟨_, rfl⟩
 obtain ⟨ng, hng⟩ : ∃ n, n = d.2.length := ⟨_, rfl⟩
 obtain ⟨np, hnp⟩ : ∃ n, n = pool.length := ⟨_, rfl⟩
 have hlen : (st.fits d).length ≤ 2000 := by
  have := all_len st
  unfold St.fits
  rw [List.length_reverse]
  have := List.length_filter_le (willB d) st.all
  omega
 rw [← hn1, ← hn2, ← hng] at hft ⊢
 rw [← hnp] at hpl ⊢
 rw [hD] at hft ⊢
 unfold St.fitsP
 obtain ⟨ps, hps⟩ : ∃ ps, ps = st.fits d := ⟨_, rfl⟩
 rw [← hps] at hft hlen ⊢
 obtain ⟨iP, hiP, hzP0, hzP1, hzP2⟩ := info_parts infoPkg
 have HI := hdL (And.intro hiP (And.intro hzP0 (And.intro hzP1 hzP2)))
 obtain ⟨w0, hw0, hb0, hx0, y1, y2⟩ := aBk w #[.slice a1 n1 c1, .slice a2 n2 c2] 28
 obtain ⟨wd, hwd, hbd, hxd, y3, y4⟩ := aBk w0 #[.string D, .slice ag ng cg] 59
 obtain ⟨B1, hB1⟩ : ∃ b, w0.heap.size = b := ⟨_, rfl⟩
 have g0 := (hbd.block _ (by omega)).trans hx0
 rw [hB1] at hxd
 have hb01 := hb0.trans (hbd.mono hb0.size)
 obtain ⟨s0, s1⟩ := cells2 g0
 obtain ⟨e0, e1⟩ := cells2 hxd
 obtain ⟨n, hn⟩ : ∃ n, n = ps.length := ⟨_, rfl⟩
 rw [← hn] at hlen
 have HFT := hdL (hft wd hb01); have HB0 := hdL hb01; have HN := hdL hn; have HPL := hdL hpl; have HNP := hdL hnp
 clear hft hpl hb0 hbd hb01 hx0 hxd g0 hD hD2 hd h hn1 hn2 hng hnp hps hn hs hr hiP hzP0 hzP1 hzP2 y1 y2 y3 y4
 go_enter Tryz.func54, Tryz.ntmps54
 go_wp2_with fail
 refine HFT.out.mono ?_
 rintro e w1 ⟨v', rfl, hrow, h2⟩
 obtain ⟨aA, cA, rfl⟩ := hrow.form
 rw [← HN.out] at hrow ⊢
 have HP := hdL (PkRow.at hrow (by rw [← HN.out]; omega)); have HB := hdL (HB0.out.trans (h2.mono HB0.out.size))
 rw [HNP.out] at HPL
 clear hrow h2 s0 s1 e0 e1
 go_wp2_with fail
 go_loopw [7, 14] (fun x i wr => ∃ (k m : Nat) (L : List Pk) (a : Option Addr) (c : Nat), x = .slice a m c ∧ i = .int .i64 k ∧ k ≤ n ∧ m ≤ k + 0 ∧ Hid (m = L.length) ∧ Hid (L = [] ++ (ps.take k).filter (inP pool)) ∧ Hid (PkRow w1.heap.size wr (.slice a m c) L) ∧ Hid (Below w1.heap.size w1 wr)) (fun _ i _ => n - (intOf i).toNat)
 case atStart => exact ⟨0, 0, [], none, 0, rfl, rfl, Nat.zero_le _, Nat.zero_le _, hdL rfl, hdL rfl, hdL (PkRow.nil _ _), hdL (Below.refl _ _)⟩
 case round =>
  obtain ⟨k, m, L, a, c, rfl, rfl, hkn, hmk, hm, hL, hrow, hbw⟩ := hrel
  have H0 := hdL (HB.out.trans (hbw.out.mono HB.out.size))
  by_cases hlt : k < n
  ·obtain ⟨q, hq⟩ : ∃ q, ps[k]? = some q := ⟨_, gEg (by rw [← HN.out]; exact hlt)⟩
   obtain ⟨b, o, S, rfl, hS, c0, c1, c2, c3⟩ := (HP.out.below hbw.out).cells hq
   have hfy := filt_yes (f := (inP pool)) hq
   have hfn := filt_no (f := (inP pool)) hq
   have hcm := fun W (hW : Below w.heap.size w W) => rin2_any W Zp _ pool (HPL.out.below hW) q
   rw [hS, ← HNP.out] at hcm
   obtain ⟨q1, hq1⟩ : ∃ x, x = q.2.1 := ⟨_, rfl⟩
   obtain ⟨q2, hq2⟩ : ∃ x, x = q.2.2.1 := ⟨_, rfl⟩
   obtain ⟨q3, hq3⟩ : ∃ x, x = q.2.2.2 := ⟨_, rfl⟩
   rw [← hq1] at c1; rw [← hq2] at c2; rw [← hq3] at c3
   simp only [← hq1, ← hq2, ← hq3] at hcm
   obtain ⟨w3, hw3, hb3, hx3, z1, z2⟩ := aBk wr #[.string S, .int .i64 q1, .int .i64 q2, .int .i64 q3] 41
   obtain ⟨b3, hb3e⟩ : ∃ b, wr.heap.size = b := ⟨_, rfl⟩
   rw [hb3e] at hx3
   obtain ⟨k0, k1, k2, k3⟩ := cells4 hx3
   have H3 := hdL (hbw.out.trans (hb3.mono hbw.out.size)); have HR3 := hdL (hrow.out.below hb3); have HX3 := hdL hx3; have HCM := hdL hcm; have HS := hdL (And.intro hS (And.intro hq1 (And.intro hq2 hq3)))
   have HFY := hdL hfy; have HFN := hdL hfn
   clear hq hS hq1 hq2 hq3 hx3 hb3 hcm hfy hfn z1 z2 
   cases hf : inP pool q
   ·rw [hf] at HCM
    have HF := hdL (HFN.out hf)
    clear hf
    go_wp2_with fail
    refine (HCM.out _ (HB.out.trans (H3.out.mono HB.out.size))).mono ?_
    rintro e w4 ⟨rfl, h4⟩
    have H4 := hdL (H3.out.trans (h4.mono H3.out.size)); have HR4 := hdL (HR3.out.below h4)
    clear h4 k0 k1 k2 k3
    go_wp2_with fail
    go_roundw
    case rel => exact ⟨k + 1, m, L, a, c, rfl, by go_num, hlt, by omega, hm, hdL (by rw [HF.out]; exact hL.out), HR4, H4⟩
    case measure => simp [intOf]; omega
   ·rw [hf] at HCM
    have HF := hdL (HFY.out hf)
    clear hf
    go_wp2_with fail
    refine (HCM.out _ (HB.out.trans (H3.out.mono HB.out.size))).mono ?_
    rintro e w4 ⟨rfl, h4⟩
    have H4 := hdL (H3.out.trans (h4.mono H3.out.size))
    have hx4 := (h4.block _ (loh HX3.out)).trans HX3.out
    have hr4 := HR3.out.below h4
    obtain ⟨k0, k1, k2, k3⟩ := cells4 hx4
    obtain ⟨w5, hw5, hb5, hx5, z1, z2⟩ := aBk w4 #[.string S, .int .i64 q1, .int .i64 q2, .int .i64 q3] 41
    obtain ⟨b5, hb5e⟩ : ∃ b, w4.heap.size = b := ⟨_, rfl⟩
    rw [hb5e] at hx5
    have H5 := hdL (H4.out.trans (hb5.mono H4.out.size))
    have HSRC := hdL (src_pk (q := q) HS.out.1 (by rw [← HS.out.2.1, ← HS.out.2.2.1, ← HS.out.2.2.2]; exact hx5))
    have hrm := hr4.below hb5
    have HRB := hdL (fun g hg => (row_base hrm g hg).1)
    unfold PkRow at hrm
    rw [← hm.out] at hrm
    have HRM := hdL hrm
    clear hb5 hx5 hrm z1 z2
    clear h4 hx4 hr4
    go_wp2_with (first | (at_builtin; refine wpList_append_srcs rfl (.tmp 21) (.tmp 23) 22 22 rfl w1.heap.size 41 iP _ 4 40 Tryz.underlying22 HI.out.1 HI.out.2.1 HI.out.2.2.1 HI.out.2.2.2 rfl (by decide) (.slice a m c) rfl m _ HRM.out _ rfl 1 (pkL q) HSRC.out (by unfold maxLen; omega) (by omega) H5.out.size ?_; intro a' c' w6 hown hgrow _ _; have HOWN := hdL hown; have HGROW := hdL hgrow; clear hown hgrow) | fail)
    go_roundw
    case rel => exact ⟨k + 1, m + 1, L ++ [q], a', c', rfl, by go_num, hlt, by omega, hdL (by rw [lAp, hm.out]; rfl), hdL (by rw [HF.out, ← List.append_assoc, ← hL.out]), hdL (PkRow.push hm.out HOWN.out), hdL (below_grownR H5.out HGROW.out HRB.out)⟩
    case measure => simp [intOf]; omega
  ·obtain rfl : k = n := by omega
   have hL2 := hL.out
   rw [tLe (by rw [← HN.out]; exact Nat.le_refl _)] at hL2
   have HL2 := hdL hL2
   clear hL2
   go_wp2_with fail
   go_ret
   refine ⟨_, rfl, ?_, H0.out⟩
   rw [show ps.filter (inP pool) = L from by rw [HL2.out]; rfl]
   have := hrow.out
   unfold PkRow at this ⊢
   exact row_mono this HB.out.size
theorem nePk2 (p q : Pk) {S T : ByteArray} (hS : strV p.1 = .string S) (hT : strV q.1 = .string T) (W : World) : (binOp .neq 41 (.agg #[.string S, .int .i64 p.2.1, .int .i64 p.2.2.1, .int .i64 p.2.2.2]) (.agg #[.string T, .int .i64 q.2.1, .int .i64 q.2.2.1, .int .i64 q.2.2.2])).run Tryz.prog W = .ok (.bool (!decide (p = q))) W := by
 have h := eqPk2 p q hS hT W
 rw [run_eql_struct] at h
 rw [run_neq_struct]
 generalize (Op.equalIn 10000 41 _ _).run Tryz.prog W = R at h ⊢
 cases R with
 | ok b w =>
  simp only [Result.andThen, Result.ok.injEq, Value.bool.injEq] at h ⊢
  obtain ⟨rfl, rfl⟩ := h
  exact ⟨rfl, rfl⟩
 | halt e w => cases h
theorem rsame_any (w : World) (Z : Zone) (v : Value) (ps : List Pk) (h : PkgsAt Z w v ps) (Z2 : Zone) (v2 : Value) (qs : List Pk) (h2 : PkgsAt Z2 w v2 qs) :
  Calls Tryz.prog 33 #[v, v2] w (fun e w' => e = .returned (.bool (decide (ps = qs))) ∧ Below w.heap.size w w') := by
 have h0 := h
 obtain ⟨a, c, rfl, hb, -⟩ := h0
 have h02 := h2
 obtain ⟨a2, c2, rfl, hb2, -⟩ := h02
 obtain ⟨n, hnn⟩ : ∃ n, n = ps.length := ⟨_, rfl⟩
 obtain ⟨n2, hnn2⟩ : ∃ n, n = qs.length := ⟨_, rfl⟩
 obtain ⟨R, hR⟩ : ∃ R, R = decide (ps = qs) := ⟨_, rfl⟩
 rw [← hR]
 rw [← hnn] at hb h ⊢
 rw [← hnn2] at hb2 h2 ⊢
 have hnl : n ≤ 8796093022208 := hb.max
 have HN := hdL hnn; have HN2 := hdL hnn2; have HR := hdL hR; have HP := hdL h; have HQ := hdL h2
 clear hnn hnn2 hR hb hb2 h h2
 go_enter Tryz.func33, Tryz.ntmps33
 by_cases hne : n = n2
 ·subst hne
  go_wp2_with fail
  go_loopw [13] (fun x wr => ∃ k : Nat, x = .int .i64 k ∧ k ≤ n ∧ Hid (ps.take k = qs.take k) ∧ Hid (Below w.heap.size w wr)) (fun x _ => n - (intOf x).toNat)
  case atStart => exact ⟨0, rfl, Nat.zero_le _, rfl, Below.refl _ _⟩
  case round =>
   obtain ⟨k, rfl, hkn, hsm, hbw⟩ := hrel
   by_cases hlt : k < n
   ·obtain ⟨p, hp⟩ : ∃ q, ps[k]? = some q := ⟨_, gEg (by rw [← HN.out]; exact hlt)⟩
    obtain ⟨q, hq⟩ : ∃ q, qs[k]? = some q := ⟨_, gEg (by rw [← HN2.out]; exact hlt)⟩
    obtain ⟨b, o, S, rfl, hS, c0, c1, c2, c3⟩ := (HP.out.below hbw.out).cells hp
    obtain ⟨b2, o2, T, rfl, hT, d0, d1, d2, d3⟩ := (HQ.out.below hbw.out).cells hq
    have hgo := nePk2 p q hS hT
    obtain ⟨p1, hp1⟩ : ∃ x, p.2.1 = x := ⟨_, rfl⟩
    obtain ⟨p2, hp2⟩ : ∃ x, p.2.2.1 = x := ⟨_, rfl⟩
    obtain ⟨p3, hp3⟩ : ∃ x, p.2.2.2 = x := ⟨_, rfl⟩
    obtain ⟨q1, hq1⟩ : ∃ x, q.2.1 = x := ⟨_, rfl⟩
    obtain ⟨q2, hq2⟩ : ∃ x, q.2.2.1 = x := ⟨_, rfl⟩
    obtain ⟨q3, hq3⟩ : ∃ x, q.2.2.2 = x := ⟨_, rfl⟩
    rw [hp1] at c1; rw [hp2] at c2; rw [hp3] at c3
    rw [hq1] at d1; rw [hq2] at d2; rw [hq3] at d3
    simp only [hp1, hp2, hp3, hq1, hq2, hq3] at hgo
    have HPK := hdL hp; have HQK := hdL hq
    clear hp hq hS hT hp1 hp2 hp3 hq1 hq2 hq3
    cases hd : decide (p = q)
    ·simp only [hd, Bool.not_false] at hgo
     have HF := hdL (show R = false by
      rw [HR.out]
      refine decide_eq_false (fun e => ?_)
      have e1 := HPK.out
      rw [e, HQK.out] at e1
      exact (of_decide_eq_false hd) (sIj e1).symm)
     clear hd
     go_wp2_with fail
     go_quiet (fail)
     go_wp2_with fail
     go_ret
     exact ⟨by (rw [HF.out]; rfl), Below.drewN hbw.out _⟩
    ·simp only [hd, Bool.not_true] at hgo
     have HNX := hdL (show ps.take (k + 1) = qs.take (k + 1) by
      rw [List.take_add_one, List.take_add_one, HPK.out, HQK.out, hsm.out, of_decide_eq_true hd])
     clear hd
     go_wp2_with fail
     go_quiet (fail)
     go_wp2_with fail
     go_roundw
     case rel => exact ⟨k + 1, by go_num, hlt, HNX, Below.drewN hbw.out _⟩
     case measure => simp [intOf]; omega
   ·obtain rfl : k = n := by omega
    have HY := hdL (show R = true by
     have := hsm.out
     rw [tLe (by rw [← HN.out]; omega), tLe (by rw [← HN2.out]; omega)] at this
     rw [HR.out]; exact decide_eq_true this)
    go_wp2_with fail
    go_ret
    exact ⟨by (rw [HY.out]; rfl), hbw.out⟩
 ·have hne' : ((n : Int) != (n2 : Int)) = true := by simp; omega
  have HF := hdL (show R = false by rw [HR.out]; exact decide_eq_false (fun e => hne (by rw [HN.out, HN2.out, e])))
  go_wp2_with fail
  go_ret
  exact ⟨by (rw [HF.out]; rfl), Below.refl _ _⟩
theorem rsameC_any (w : World) (c d : Ch5) (Z : Zone) (v : Value) (h : PkgsAt Z w v c.2) (Z2 : Zone) (v2 : Value) (h2 : PkgsAt Z2 w v2 d.2) :
  Calls Tryz.prog 67 #[.agg #[strV c.1.1, .int .i64 c.1.2.1, .int .i64 c.1.2.2.1, .int .i64 c.1.2.2.2, v], .agg #[strV d.1.1, .int .i64 d.1.2.1, .int .i64 d.1.2.2.1, .int .i64 d.1.2.2.2, v2]] w (fun e w' => e = .returned (.bool (decide (c = d))) ∧ Below w.heap.size w w') := by
 have hsm := fun W (hW : Below w.heap.size w W) => rsame_any W Z v c.2 (h.below hW) Z2 v2 d.2 (h2.below hW)
 have h0 := h
 obtain ⟨a, ca, rfl, -⟩ := h0
 have h02 := h2
 obtain ⟨a2, ca2, rfl, -⟩ := h02
 obtain ⟨n, hnn⟩ : ∃ n, n = c.2.length := ⟨_, rfl⟩
 obtain ⟨n2, hnn2⟩ : ∃ n, n = d.2.length := ⟨_, rfl⟩
 rw [← hnn, ← hnn2] at hsm ⊢
 obtain ⟨S, -, hS, -, -⟩ := strV_is c.1.1
 obtain ⟨T, -, hT, -, -⟩ := strV_is d.1.1
 have hgo := eqPk2 c.1 d.1 hS hT
 rw [hS, hT]
 obtain ⟨R, hR⟩ : ∃ R, R = decide (c = d) := ⟨_, rfl⟩
 rw [← hR]
 have hR2 : R = (decide (c.1 = d.1) && decide (c.2 = d.2)) := by
  rw [hR, Bool.eq_iff_iff, Bool.and_eq_true, decide_eq_true_eq, decide_eq_true_eq, decide_eq_true_eq]
  exact Prod.ext_iff
 obtain ⟨t1, ht1⟩ : ∃ t, t = decide (c.1 = d.1) := ⟨_, rfl⟩
 obtain ⟨t2, ht2⟩ : ∃ t, t = decide (c.2 = d.2) := ⟨_, rfl⟩
 rw [← ht1] at hgo hR2; rw [← ht2] at hsm hR2
 obtain ⟨p1, hp1⟩ : ∃ x, c.1.2.1 = x := ⟨_, rfl⟩
 obtain ⟨p2, hp2⟩ : ∃ x, c.1.2.2.1 = x := ⟨_, rfl⟩
 obtain ⟨p3, hp3⟩ : ∃ x, c.1.2.2.2 = x := ⟨_, rfl⟩
 obtain ⟨q1, hq1⟩ : ∃ x, d.1.2.1 = x := ⟨_, rfl⟩
 obtain ⟨q2, hq2⟩ : ∃ x, d.1.2.2.1 = x := ⟨_, rfl⟩
 obtain ⟨q3, hq3⟩ : ∃ x, d.1.2.2.2 = x := ⟨_, rfl⟩
 simp only [hp1, hp2, hp3, hq1, hq2, hq3] at hgo ⊢
 obtain ⟨w0, hw0, hb0, hx0, y1, y2⟩ := aBk w #[.string S, .int .i64 p1, .int .i64 p2, .int .i64 p3, .slice a n ca] 43
 obtain ⟨w1, hw1, hb1, hx1, y3, y4⟩ := aBk w0 #[.string T, .int .i64 q1, .int .i64 q2, .int .i64 q3, .slice a2 n2 ca2] 43
 obtain ⟨B1, hB1⟩ : ∃ b, w0.heap.size = b := ⟨_, rfl⟩
 have g0 := (hb1.block _ (by omega)).trans hx0
 rw [hB1] at hx1
 obtain ⟨s0, s1, s2, s3, s4⟩ := cells5 g0
 obtain ⟨e0, e1, e2, e3, e4⟩ := cells5 hx1
 have HB := hdL (hb0.trans (hb1.mono hb0.size))
 have HSM := hdL (hsm w1 HB.out); have HR := hdL hR2
 clear h h2 hsm hS hT hR hR2 ht1 ht2 hp1 hp2 hp3 hq1 hq2 hq3 hnn hnn2 hb0 hb1 hx0 hx1 g0 y1 y2 y3 y4
 cases t1
 ·go_enter Tryz.func67, Tryz.ntmps67
  go_wp2_with fail
  go_ret
  exact ⟨by rw [HR.out]; rfl, HB.out⟩
 ·go_enter Tryz.func67, Tryz.ntmps67
  go_wp2_with fail
  refine HSM.out.mono ?_
  rintro e w2 ⟨rfl, h2⟩
  have H2 := hdL (HB.out.trans (h2.mono HB.out.size))
  clear h2
  go_wp2_with fail
  go_ret
  exact ⟨by rw [HR.out]; rfl, H2.out⟩
end Go.Proofs.YtaagkndhgicifaaGreat
