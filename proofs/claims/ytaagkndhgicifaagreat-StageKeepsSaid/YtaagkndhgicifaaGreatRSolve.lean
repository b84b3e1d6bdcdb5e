/- DERIVED. The reference's Solve, walked. (Printed by a program.) -/
import Derived.Test.YtaagkndhgicifaaGreatRMeetH
import Derived.Test.YtaagkndhgicifaaGreatSolLaw
namespace Go.Proofs.YtaagkndhgicifaaGreat
set_option maxHeartbeats 32000000
open Go.RowKit Go.Shelf
set_option linter.unusedVariables false
set_option linter.unusedSimpArgs false
set_option maxRecDepth 100000
def RSolveP (w : World) (r : Ch5 × Int × Int) (e : Ending) (w' : World) : Prop := Below w.heap.size w w' ∧ ∃ (s : ByteArray) (a : Option Addr) (c : Nat), strV r.1.1.1 = .string s ∧
 e = .returned (.tuple #[.agg #[.string s, .int .i64 r.1.1.2.1, .int .i64 r.1.1.2.2.1, .int .i64 r.1.1.2.2.2, .slice a r.1.2.length c], .int .i64 r.2.1, .int .i64 r.2.2]) ∧ PkgsAt (zNew w.heap.size) w' (.slice a r.1.2.length c) r.1.2
theorem rsolveP_none {w w' : World} {m e0 : Int} (h : Below w.heap.size w w') : RSolveP w (ch0, m, e0) (.returned (.tuple #[.agg #[.string ⟨#[]⟩, .int .i64 0, .int .i64 0, .int .i64 0, .slice none 0 0], .int .i64 m, .int .i64 e0])) w' :=
 ⟨h, ⟨#[]⟩, none, 0, rfl, rfl, none, 0, rfl, ⟨Nat.le_refl _, by simp [ch0], by unfold maxLen; omega, fun _ => ⟨rfl, rfl⟩⟩, fun h => absurd rfl h⟩
theorem rsolve_any (w : World) (v : Value) (st : St) (h : RefAt zAll w v st) (hs : st.seeds.length ≤ 1000) (hr : st.recs.length ≤ 1000) (hg : ∀ r ∈ st.recs, goodRc r = true) (p : Pk) (vp : Value) (pool : List Pk) (hp : PkgsAt zAll w vp pool) (left : Int) (hl : left ≤ 2000) :
  Calls Tryz.prog 22 #[v, .agg #[strV p.1, .int .i64 p.2.1, .int .i64 p.2.2.1, .int .i64 p.2.2.2], vp, .int .i64 left] w (RSolveP w (solveT st p pool left)) := by
 have hrc := fun W (hW : Below w.heap.size w W) => rrec_any W zAll v st (h.below hW) p
 have hft := fun W (hW : Below w.heap.size w W) v0 v1 d (hd : DepAt zAll W v0 v1 d) => rfitsP_any W zAll v st (h.below hW) hs hr zAll vp pool (hp.below hW) zAll v0 v1 d hd
 have hme := fun W (hW : Below w.heap.size w W) vw ws (hw : DepsAt zAll W vw ws) (hlw : ws.length ≤ 8) (b : Nat) (hb : 1 + (b : Int) = left) n res hm => rmeet_any st hs hr hg pool v vp left n W vw ws (.slice none 0 0) [] b 1 res (h.below hW) (hp.below hW) hw ⟨none, 0, rfl, ⟨Nat.le_refl _, by simp, by unfold maxLen; omega, fun _ => ⟨rfl, rfl⟩⟩, fun h => absurd rfl h⟩ hb (by omega) (by omega) (by omega) (by simp; omega) hm
 obtain ⟨a1, c1, a2, c2, rfl, -, -⟩ := h.form
 obtain ⟨ap, cp, rfl, -⟩ := hp
 obtain ⟨T, -, hT, -, -⟩ := strV_is p.1
 rw [hT] at hrc ⊢
 obtain ⟨n1, hn1⟩ : ∃ n, n = st.seeds.length := ⟨_, rfl⟩
 obtain ⟨n2, hn2⟩ : ∃ n, n = st.recs.length := ⟨_, rfl⟩
 obtain ⟨np, hnp⟩ : ∃ n, n = pool.length := ⟨_, rfl⟩
 rw [← hn1, ← hn2] at hrc hft hme ⊢
 rw [← hnp] at hft hme ⊢
 obtain ⟨p1, hp1⟩ : ∃ x, x = p.2.1 := ⟨_, rfl⟩
 obtain ⟨p2, hp2⟩ : ∃ x, x = p.2.2.1 := ⟨_, rfl⟩
 obtain ⟨p3, hp3⟩ : ∃ x, x = p.2.2.2 := ⟨_, rfl⟩
 rw [← hp1, ← hp2, ← hp3] at hrc ⊢
 obtain ⟨res, hres⟩ : ∃ r, r = solveT st p pool left := ⟨_, rfl⟩
 rw [← hres]
 unfold solveT at hres
 obtain ⟨w0, hw0, hb0, hx0, y1, y2⟩ := aBk w #[.slice a1 n1 c1, .slice a2 n2 c2] 28
 obtain ⟨w1, hw1, hb1, hx1, y3, y4⟩ := aBk w0 #[.string T, .int .i64 p1, .int .i64 p2, .int .i64 p3] 41
 obtain ⟨w2, hw2, hb2, hx2, y5, y6⟩ := aBk w1 #[.string ⟨#[]⟩, .int .i64 0, .int .i64 0, .int .i64 0, .slice none 0 0] 43
 obtain ⟨b1, hb1e⟩ : ∃ b, w0.heap.size = b := ⟨_, rfl⟩
 obtain ⟨b2, hb2e⟩ : ∃ b, w1.heap.size = b := ⟨_, rfl⟩
 have hb12 := hb1.trans (hb2.mono hb1.size)
 have g0 := (hb12.block _ (by omega)).trans hx0
 have g1 := (hb2.block _ (by omega)).trans hx1
 rw [hb1e] at g1
 rw [hb2e] at hx2
 have HB2 := hdL (hb0.trans (hb12.mono hb0.size)); have G02 := hdL g0; have G12 := hdL g1; have G22 := hdL hx2; have HRC := hdL hrc; have HFT := hdL hft; have HME := hdL hme; have HSZ := hdL (show w.heap.size < b1 ∧ b1 < b2 from by omega); have HRES := hdL hres; have HGOOD := hdL hg; have HLN := hdL (show ∀ d, (st.fitsP pool d).length ≤ 2000 from fun d => Nat.le_trans (fitsP_len st pool d) (by omega))
 clear hrc hft hme h hs hr hg hT hn1 hn2 hnp hp1 hp2 hp3 hres hb0 hb1 hb2 hb12 g0 g1 hx0 hx1 hx2 y1 y2 y3 y4 y5 y6
 obtain ⟨s0, s1⟩ := cells2 G02.out
 obtain ⟨e0, e1, e2, e3⟩ := cells4 G12.out
 obtain ⟨z0, z1, z2, z3, z4⟩ := cells5 G22.out
 have zf := foh G22.out
 go_enter Tryz.func22, Tryz.ntmps22
 go_wp2_with fail
 refine (HRC.out _ HB2.out).mono ?_
 intro e w3 hrp
 obtain ⟨rs, rx, ry, rz, rt, ra1, rn1, rc1, ra2, rn2, rc2, ra3, rn3, rc3, rb, rfl, hrb, h3, hat⟩ := hrp.shape
 obtain ⟨w4, hw4, hb4, hx4, y1, y2⟩ := aBk w3 #[.string rs, .int .i64 rx, .int .i64 ry, .int .i64 rz, .string rt, .slice ra1 rn1 rc1, .slice ra2 rn2 rc2, .slice ra3 rn3 rc3] 62
 obtain ⟨b4, hb4e⟩ : ∃ b, w3.heap.size = b := ⟨_, rfl⟩
 rw [hb4e] at hx4
 have h34 := h3.trans (hb4.mono h3.size)
 have G04 := hdL ((h34.block _ (loh G02.out)).trans G02.out); have G14 := hdL ((h34.block _ (loh G12.out)).trans G12.out); have G24 := hdL ((h34.block _ (loh G22.out)).trans G22.out)
 have G44 := hdL hx4; have HB4 := hdL (HB2.out.trans (h34.mono HB2.out.size)); have HAT := hdL (fun r hr => (hat r hr).below hb4)
 clear hrp h3 hb4 hx4 h34 hat y1 y2 s0 s1 e0 e1 e2 e3 z0 z1 z2 z3 z4 zf
 obtain ⟨s0, s1⟩ := cells2 G04.out
 obtain ⟨z0, z1, z2, z3, z4⟩ := cells5 G24.out
 have zf := foh G24.out
 obtain ⟨q0, q1, q2, q3, q4, q5, q6, q7⟩ := cells8 G44.out
 rcases hq : st.rec? p with _ | r
 ·rw [hq] at hrb
  subst hrb
  have HQ := hdL hq
  clear hq
  go_wp2_with fail
  obtain ⟨V, hV, hVx, hVc⟩ := five_set G24.out (.string ⟨#[]⟩) (.int .i64 0) (.int .i64 0) (.int .i64 0) (.slice none 0 0)
  try rw [hV]
  obtain ⟨r0, r1, r2, r3, r4⟩ := cells5 hVx
  refine bodyPost_ret (v := .tuple #[.agg #[.string ⟨#[]⟩, .int .i64 0, .int .i64 0, .int .i64 0, .slice none 0 0], .int .i64 0, .int .i64 14]) (by simp [results, Tryz.results22, go_sem, r0, r1, r2, r3, r4]) rfl ?_
  have hres := HRES.out
  rw [HQ.out] at hres
  rw [hres]
  exact rsolveP_none (HB4.out.trans (boC hVc (fun k hk => by rw [mSg.1 hk]; have := HSZ.out; omega) HB4.out.size))
 ·rw [hq] at hrb
  subst hrb
  have hat := HAT.out r hq
  obtain ⟨t0, t1, bd, rn, e1, -, hdt, hdb, -⟩ := hat
  simp only [List.cons.injEq, and_true] at e1
  obtain ⟨-, -, -, -, rfl, rfl, rfl, rfl⟩ := e1
  have hft := HFT.out w4 HB4.out _ _ _ hdt
  have HF := hdL hft; have HDB := hdL hdb; have HQ := hdL hq; have HL := hdL (HLN.out r.tool)
  have hbl : r.build.length ≤ 8 := by
   have hg := HGOOD.out r (St.rec?_some hq).1
   unfold goodRc at hg
   simp only [Bool.and_eq_true] at hg
   have := hg.2.2.1
   unfold depsB at this
   simp only [Bool.and_eq_true, decide_eq_true_eq] at this
   exact this.1
  have HBL := hdL hbl
  clear hft hdt hdb hq hbl
  go_wp2_with fail
  refine HF.out.mono ?_
  rintro e w5 ⟨v', rfl, hrow, h5⟩
  have hres := HRES.out
  rw [HQ.out] at hres
  dsimp only at hres
  obtain ⟨fs, hfs⟩ : ∃ fs, fs = st.fitsP pool r.tool := ⟨_, rfl⟩
  rw [← hfs] at hrow hres
  have hfl : fs.length ≤ 2000 := by rw [hfs]; exact HL.out
  have hP := hrow.at (by omega)
  obtain ⟨aT, cT, rfl⟩ := hrow.form
  have G05 := hdL ((h5.block _ (loh G04.out)).trans G04.out); have G15 := hdL ((h5.block _ (loh G14.out)).trans G14.out); have G25 := hdL ((h5.block _ (loh G24.out)).trans G24.out); have G45 := hdL ((h5.block _ (loh G44.out)).trans G44.out)
  have HB5 := hdL (HB4.out.trans (h5.mono HB4.out.size)); have HDB5 := hdL (HDB.out.below h5); have HP := hdL hP
  clear hfs hrow hP h5 s0 s1 z0 z1 z2 z3 z4 zf q0 q1 q2 q3 q4 q5 q6 q7
  obtain ⟨s0, s1⟩ := cells2 G05.out
  obtain ⟨z0, z1, z2, z3, z4⟩ := cells5 G25.out
  have zf := foh G25.out
  obtain ⟨q0, q1, q2, q3, q4, q5, q6, q7⟩ := cells8 G45.out
  rcases fs with _ | ⟨t, ts⟩
  ·simp only [List.length_nil] at hfl HP ⊢
   have HR2 := hdL hres
   clear hres hfl
   go_wp2_with fail
   obtain ⟨V, hV, hVx, hVc⟩ := five_set G25.out (.string ⟨#[]⟩) (.int .i64 0) (.int .i64 0) (.int .i64 0) (.slice none 0 0)
   try rw [hV]
   obtain ⟨r0, r1, r2, r3, r4⟩ := cells5 hVx
   refine bodyPost_ret (v := .tuple #[.agg #[.string ⟨#[]⟩, .int .i64 0, .int .i64 0, .int .i64 0, .slice none 0 0], .int .i64 0, .int .i64 12]) (by simp [results, Tryz.results22, go_sem, r0, r1, r2, r3, r4]) rfl ?_
   have hres := HR2.out
   rw [hres]
   exact rsolveP_none (HB5.out.trans (boC hVc (fun k hk => by rw [mSg.1 hk]; have := HSZ.out; omega) HB5.out.size))
  ·have HR2 := hdL hres
   clear hres
   obtain ⟨nT, hnT⟩ : ∃ n, n = ts.length := ⟨_, rfl⟩
   simp only [List.length_cons, ← hnT] at hfl HP ⊢
   have hz : (((nT + 1 : Nat) : Int) == 0) = false := by simp; omega
   obtain ⟨N, hN⟩ : ∃ N, N = nT + 1 := ⟨_, rfl⟩
   rw [← hN] at hfl HP hz ⊢
   have hN1 : 0 < N := by omega
   have HNT := hdL hnT
   clear hnT hN
   by_cases hl1 : left < 1
   ·have HL1 := hdL hl1
    go_wp2_with fail
    obtain ⟨V, hV, hVx, hVc⟩ := five_set G25.out (.string ⟨#[]⟩) (.int .i64 0) (.int .i64 0) (.int .i64 0) (.slice none 0 0)
    try rw [hV]
    obtain ⟨r0, r1, r2, r3, r4⟩ := cells5 hVx
    refine bodyPost_ret (v := .tuple #[.agg #[.string ⟨#[]⟩, .int .i64 0, .int .i64 0, .int .i64 0, .slice none 0 0], .int .i64 0, .int .i64 60]) (by simp [results, Tryz.results22, go_sem, r0, r1, r2, r3, r4]) rfl ?_
    have hres := HR2.out
    rw [if_pos HL1.out] at hres
    rw [hres]
    exact rsolveP_none (HB5.out.trans (boC hVc (fun k hk => by rw [mSg.1 hk]; have := HSZ.out; omega) HB5.out.size))
   ·have hr2 := HR2.out
    dsimp only at hr2
    rw [if_neg hl1] at hr2
    obtain ⟨m, hm, hle⟩ := meet_some (st.fitsP pool) st.runs (left - 1).toNat r.build []
    generalize meet (st.fitsP pool) st.runs (left - 1).toNat r.build [] = rs2 at hr2 hm hle
    have hme := HME.out w5 HB5.out _ _ HDB5.out HBL.out _ (by omega) m _ hm
    have HMF := hdL hm; have HM := hdL hme; have HR3 := hdL hr2; have HLE := hdL hle
    clear hme hr2 hm hle
    go_wp2_with fail
    refine HM.out.mono ?_
    intro e w6 hmp
    obtain ⟨a6, n6, c6, m6, e6, rfl⟩ := hmp.form
    obtain ⟨h6, hmr⟩ := hmp
    have G06 := hdL ((h6.block _ (loh G05.out)).trans G05.out); have G16 := hdL ((h6.block _ (loh G15.out)).trans G15.out); have G26 := hdL ((h6.block _ (loh G25.out)).trans G25.out); have G46 := hdL ((h6.block _ (loh G45.out)).trans G45.out)
    have HB6 := hdL (HB5.out.trans (h6.mono HB5.out.size)); have HP6 := hdL (HP.out.below h6)
    clear h6 s0 s1 z0 z1 z2 z3 z4 zf q0 q1 q2 q3 q4 q5 q6 q7
    obtain ⟨s0, s1⟩ := cells2 G06.out
    obtain ⟨z0, z1, z2, z3, z4⟩ := cells5 G26.out
    have zf := foh G26.out
    obtain ⟨q0, q1, q2, q3, q4, q5, q6, q7⟩ := cells8 G46.out
    obtain ⟨rs2, rb2⟩ := rs2
    rcases rs2 with cx | _ | _
    ·obtain ⟨vc2, hvc, hpc⟩ := hmr
     injection hvc with hvc
     injection hvc with hvc
     have hvc2 := congrArg Array.toList hvc
     simp only [List.cons.injEq, and_true] at hvc2
     obtain ⟨hv1, hv2, hv3⟩ := hvc2
     injection hv2 with _ hv2
     injection hv3 with _ hv3
     subst hv1
     subst hv3
     have hpc' := hpc
     obtain ⟨_, _, e7, hb7, -⟩ := hpc'
     obtain ⟨-, hn6, -⟩ := Value.slice.inj e7
     have HV2 := hdL hv2; have HPC := hdL hpc; have HN6 := hdL hn6
     clear hvc hv2 hpc e7 hb7 hn6
     obtain ⟨bT, oT, sT, rfl, hsT, f0, f1, f2, f3⟩ := HP6.out.cells (k := 0) (q := t) rfl
     obtain ⟨t1, ht1⟩ : ∃ x, x = t.2.1 := ⟨_, rfl⟩
     obtain ⟨t2, ht2⟩ : ∃ x, x = t.2.2.1 := ⟨_, rfl⟩
     obtain ⟨t3, ht3⟩ : ∃ x, x = t.2.2.2 := ⟨_, rfl⟩
     rw [← ht1] at f1; rw [← ht2] at f2; rw [← ht3] at f3
     simp only [Nat.zero_mul, Nat.add_zero] at f0 f1 f2 f3
     have HT := hdL (And.intro hsT (And.intro ht1 (And.intro ht2 ht3)))
     clear hsT ht1 ht2 ht3
     obtain ⟨w7, hw7, hb7, hx7, y1, y2⟩ := aBk w6 #[.string sT, .int .i64 t1, .int .i64 t2, .int .i64 t3, .slice none 0 0] 43
     obtain ⟨b7, hb7e⟩ : ∃ b, w6.heap.size = b := ⟨_, rfl⟩
     rw [hb7e] at hx7
     have G27 := hdL ((hb7.block _ (loh G26.out)).trans G26.out)
     have G77 := hdL hx7; have HB7 := hdL (HB6.out.trans (hb7.mono HB6.out.size)); have HPC7 := hdL (HPC.out.below hb7); have H67 := hdL hb7; have HZ7 := hdL (show b2 < b7 ∧ w7.heap.size = b7 + 1 ∧ w.heap.size ≤ b7 from by have := loh G26.out; have := HB6.out.size; omega)
     clear hx7 hb7 y1 y2 q0 q1 q2 q3 q4 q5 q6 q7 s0 s1 z0 z1 z2 z3 z4 zf
     have hcl : cx.length ≤ 2000 := by
      have h1 := (inv_end HMF.out).2
      omega
     have HCL := hdL hcl
     clear hcl
     have HPC8 := hdL (show PkgsAt (fun b => b < b7) w7 (.slice a6 n6 c6) cx from HPC.out.keep (Keep.of_block (fun b hl _ => by omega) H67.out.size (fun b hl _ => H67.out.block b hl)))
     have HLC := hdL (show cx.length = n6 from HN6.out.symm)
     have HW7 := hdL hw7
     clear hw7
     go_upto_region 13 with fail
     try rw [HW7.out]
     go_wp2_with fail
     go_loopw [62] (fun x wr => ∃ (k : Nat) (a : Option Addr) (k2 c : Nat), x = .int .i64 k ∧ k ≤ n6 ∧ Hid (PkgsAt (fun b => b ≠ b7 ∧ b ≠ b2 ∧ w.heap.size ≤ b) wr (.slice a k2 c) ((cx.take k).foldl withL [])) ∧ Hid (wr.heap[b7]? = some (.cells #[.string sT, .int .i64 t1, .int .i64 t2, .int .i64 t3, .slice a k2 c] 43 (0, 0))) ∧ Hid (Ch [b7] w7 wr)) (fun x _ => n6 - (intOf x).toNat)
     case atStart => exact ⟨0, none, 0, 0, rfl, Nat.zero_le _, hdL ⟨none, 0, rfl, ⟨Nat.le_refl _, by simp, by unfold maxLen; omega, fun _ => ⟨rfl, rfl⟩⟩, fun h => absurd rfl h⟩, G77, hdL (Ch.refl _ _)⟩
     case round =>
      obtain ⟨k, a, k2, c, rfl, hk, hps, G78, hch⟩ := hrel
      by_cases hlt : k < n6
      ·obtain ⟨q, hq⟩ : ∃ q, cx[k]? = some q := ⟨_, gEg (by rw [HLC.out]; exact hlt)⟩
       have hP2 : PkgsAt (fun b => b < b7) wr (.slice a6 n6 c6) cx := HPC8.out.keep (Keep.of_block (fun b _ hz => hz) hch.out.size (fun b hl hz => hch.out.block b hl (fun hm => by rw [mSg.1 hm] at hz; exact absurd hz (Nat.lt_irrefl _))))
       obtain ⟨bC, oC, S, rfl, hS, f0, f1, f2, f3⟩ := hP2.cells hq
       have hk2000 : k < 2000 := by have h1 := HCL.out; have h2 := HLC.out; omega
       have hwl := foldl_next hq []
       have hlen : ((cx.take k).foldl withL []).length ≤ 2000 := by
        have h1 := foldl_len (cx.take k) []
        have h2 := HCL.out
        rw [List.length_take, List.length_nil] at h1
        omega
       obtain ⟨w8, hw8, hb8, hx8, y1, y2⟩ := aBk wr #[.string S, .int .i64 q.2.1, .int .i64 q.2.2.1, .int .i64 q.2.2.2] 41
       obtain ⟨b8, hb8e⟩ : ∃ b, wr.heap.size = b := ⟨_, rfl⟩
       rw [hb8e] at hx8
       have hcl := rwith_any w8 _ _ _ (hps.out.below hb8) (by omega) q
       rw [hS] at hcl
       obtain ⟨q1, hq1⟩ : ∃ x, x = q.2.1 := ⟨_, rfl⟩
       obtain ⟨q2, hq2⟩ : ∃ x, x = q.2.2.1 := ⟨_, rfl⟩
       obtain ⟨q3, hq3⟩ : ∃ x, x = q.2.2.2 := ⟨_, rfl⟩
       simp only [← hq1, ← hq2, ← hq3] at f1 f2 f3 hcl hx8 hw8
       have G79 := hdL ((hb8.block _ (loh G78.out)).trans G78.out); have G89 := hdL hx8; have HC8 := hdL (hch.out.trans (Ch.of_below hb8 [b7]) (fun x hx => .inl hx)); have HW := hdL hcl; have HWL := hdL hwl; have HLN2 := hdL hlen
       clear hq hP2 hS hwl hlen hb8 hx8 hcl hq1 hq2 hq3 y1 y2
       obtain ⟨g0, g1, g2, g3, g4⟩ := cells5 G79.out
       have gf := foh G79.out
       obtain ⟨d0, d1, d2, d3⟩ := cells4 G89.out
       go_wp2_with fail
       refine HW.out.mono ?_
       rintro e w9 ⟨v', rfl, hrow, h9⟩
       have hP9 := hrow.at (by
        rw [← HWL.out]
        have h1 := foldl_len (cx.take (k + 1)) []
        have h2 := HCL.out
        rw [List.length_take, List.length_nil] at h1
        omega)
       obtain ⟨aN, cN, rfl⟩ := hrow.form
       rw [← HWL.out] at hP9 ⊢
       obtain ⟨kN, hkN⟩ : ∃ n, n = ((cx.take (k + 1)).foldl withL []).length := ⟨_, rfl⟩
       rw [← hkN] at hP9 ⊢
       have G7a := hdL ((h9.block _ (loh G79.out)).trans G79.out)
       have hset := set_at 4 (.slice aN kN cN) G7a.out (ds := #[.string sT, .int .i64 t1, .int .i64 t2, .int .i64 t3, .slice aN kN cN]) (by simp)
       have hcha : Ch [b7] w7 (w9.setCell ⟨b7, 4, none⟩ (.slice aN kN cN)) := (HC8.out.trans (Ch.of_below h9 [b7]) (fun x hx => .inl hx)).setCell (p := ⟨b7, 4, none⟩) (.inl (List.mem_singleton_self _)) _
       have h7l := loh G79.out
       have hPa : PkgsAt (fun b => b ≠ b7 ∧ b ≠ b2 ∧ w.heap.size ≤ b) (w9.setCell ⟨b7, 4, none⟩ (.slice aN kN cN)) (.slice aN kN cN) ((cx.take (k + 1)).foldl withL []) := hP9.keep (Keep.of_block (fun b _ hz => by have h1 : w8.heap.size ≤ b := hz; have h2 := HZ7.out; omega) ((Ch.refl [b7] w9).setCell (p := ⟨b7, 4, none⟩) (.inl (List.mem_singleton_self _)) (.slice aN kN cN)).size (fun b hl hz => bHs _ _ _ _ (fun e => by have h1 : w8.heap.size ≤ b := hz; simp at e; omega)))
       have HSET := hdL hset; have HCA := hdL hcha; have HPA := hdL hPa
       clear hrow hP9 hkN h9 hset hcha hPa h7l g0 g1 g2 g3 g4 gf d0 d1 d2 d3
       obtain ⟨g0, g1, g2, g3, g4⟩ := cells5 G7a.out
       have gf := foh G7a.out
       go_wp2_with fail
       go_roundw
       case rel => exact ⟨k + 1, aN, kN, cN, by go_num, hlt, HPA, HSET, HCA⟩
       case measure => simp [intOf]; omega
      ·obtain rfl : n6 = k := by omega
       have hps2 := hps.out
       rw [tLe (by rw [HLC.out]; exact Nat.le_refl _)] at hps2
       have hform := hps2
       obtain ⟨_, _, e7, -, -⟩ := hform
       obtain ⟨-, hk2, -⟩ := Value.slice.inj e7
       have G2r := hdL ((hch.out.block _ (loh G27.out) (fun hm => by have := mSg.1 hm; have := HZ7.out; omega)).trans G27.out)
       have HPS := hdL hps2; have HK2 := hdL hk2
       clear hps2 e7 hk2
       obtain ⟨z0, z1, z2, z3, z4⟩ := cells5 G2r.out
       have zf := foh G2r.out
       obtain ⟨g0, g1, g2, g3, g4⟩ := cells5 G78.out
       go_wp2_with fail
       obtain ⟨V, hV, hVx, hVc⟩ := five_set G2r.out (.string sT) (.int .i64 t1) (.int .i64 t2) (.int .i64 t3) (.slice a k2 c)
       try rw [hV]
       obtain ⟨r0, r1, r2, r3, r4⟩ := cells5 hVx
       refine bodyPost_ret (v := .tuple #[.agg #[.string sT, .int .i64 t1, .int .i64 t2, .int .i64 t3, .slice a k2 c], .int .i64 m6, .int .i64 0]) (by simp [results, Tryz.results22, go_sem, r0, r1, r2, r3, r4]) rfl ?_
       have hres := HR3.out
       try dsimp only at hres
       rw [hres]
       have hb9 : Below w.heap.size w wr := HB7.out.trans (boC hch.out (fun k hk => by rw [mSg.1 hk]; have := HZ7.out; omega) HB7.out.size)
       refine ⟨hb9.trans (boC hVc (fun k hk => by rw [mSg.1 hk]; have := HSZ.out; omega) hb9.size), sT, a, c, HT.out.1, ?_, ?_⟩
       ·rw [HT.out.2.1, HT.out.2.2.1, HT.out.2.2.2, HV2.out, HK2.out]
        rfl
       ·have h1 := HPS.out
        rw [HK2.out] at h1
        refine h1.keep (Keep.of_block (fun _ _ hz => hz.2.2) hVc.size (fun b hl hz => hVc.block b hl (fun hm => hz.2.1 (mSg.1 hm))))
    ·injection hmr with hmr
     injection hmr with hmr
     have hvc2 := congrArg Array.toList hmr
     simp only [List.cons.injEq, and_true] at hvc2
     obtain ⟨hv1, hv2, hv3⟩ := hvc2
     injection hv2 with _ hv2
     injection hv3 with _ hv3
     subst hv3
     have HV2 := hdL hv2
     clear hmr hv1 hv2
     go_wp2_with fail
     obtain ⟨V, hV, hVx, hVc⟩ := five_set G26.out (.string ⟨#[]⟩) (.int .i64 0) (.int .i64 0) (.int .i64 0) (.slice none 0 0)
     try rw [hV]
     obtain ⟨r0, r1, r2, r3, r4⟩ := cells5 hVx
     refine bodyPost_ret (v := .tuple #[.agg #[.string ⟨#[]⟩, .int .i64 0, .int .i64 0, .int .i64 0, .slice none 0 0], .int .i64 m6, .int .i64 12]) (by simp [results, Tryz.results22, go_sem, r0, r1, r2, r3, r4]) rfl ?_
     have hres := HR3.out
     rw [hres, HV2.out]
     exact rsolveP_none (HB6.out.trans (boC hVc (fun k hk => by rw [mSg.1 hk]; have := HSZ.out; omega) HB6.out.size))
    ·injection hmr with hmr
     injection hmr with hmr
     have hvc2 := congrArg Array.toList hmr
     simp only [List.cons.injEq, and_true] at hvc2
     obtain ⟨hv1, hv2, hv3⟩ := hvc2
     injection hv2 with _ hv2
     injection hv3 with _ hv3
     subst hv3
     have HV2 := hdL hv2
     clear hmr hv1 hv2
     go_wp2_with fail
     obtain ⟨V, hV, hVx, hVc⟩ := five_set G26.out (.string ⟨#[]⟩) (.int .i64 0) (.int .i64 0) (.int .i64 0) (.slice none 0 0)
     try rw [hV]
     obtain ⟨r0, r1, r2, r3, r4⟩ := cells5 hVx
     refine bodyPost_ret (v := .tuple #[.agg #[.string ⟨#[]⟩, .int .i64 0, .int .i64 0, .int .i64 0, .slice none 0 0], .int .i64 m6, .int .i64 60]) (by simp [results, Tryz.results22, go_sem, r0, r1, r2, r3, r4]) rfl ?_
     have hres := HR3.out
     rw [hres, HV2.out]
     exact rsolveP_none (HB6.out.trans (boC hVc (fun k hk => by rw [mSg.1 hk]; have := HSZ.out; omega) HB6.out.size))
end Go.Proofs.YtaagkndhgicifaaGreat
