/- DERIVED. The reference's search, walked: by induction on the depth that is looked at. (Printed by a program.) -/
import Derived.Test.YtaagkndhgicifaaGreatRMeet
namespace Go.Proofs.YtaagkndhgicifaaGreat
set_option maxHeartbeats 32000000
open Go.RowKit
set_option linter.unusedVariables false
set_option linter.unusedSimpArgs false
set_option maxRecDepth 100000
theorem DepsAt.nilled {Z : Zone} {w : World} {ad ad' : Addr} {c n : Nat} {ds : List Dp} (h : DepsAt Z w (.slice (some ad) n c) ds) (hn : n = 0) : DepsAt Z w (.slice (some ad') n 0) ds := by
 obtain ⟨a, c', e, hb, hc⟩ := h
 obtain ⟨rfl, rfl, rfl⟩ := Value.slice.inj e
 have e0 : ds = [] := eN0 hn
 subst e0
 exact ⟨_, 0, rfl, ⟨Nat.le_refl _, by simp, by unfold maxLen; omega, fun e => by cases e⟩, fun h => absurd rfl h⟩
theorem find_nextP {ps : List Pk} {f : Pk → Bool} {k : Nat} {q : Pk} (h : ps[k]? = some q) (hn : (ps.take k).find? f = none) (hd : f q = false) : (ps.take (k + 1)).find? f = none := by
 rw [List.take_add_one, h, List.find?_append, hn]
 simp [hd]
theorem find_hereP {ps : List Pk} {f : Pk → Bool} {k : Nat} {q : Pk} (h : ps[k]? = some q) (hn : (ps.take k).find? f = none) (hd : f q = true) : ps.find? f = some q := by
 have hlt := (gEs.1 h).1
 have e : ps = ps.take k ++ q :: ps.drop (k + 1) := by
  rw [← (gEs.1 h).2, ← List.drop_eq_getElem_cons hlt, List.take_append_drop]
 rw [e, List.find?_append, hn]
 simp [hd]
theorem runs_lenG {st : St} (hg : ∀ r ∈ st.recs, goodRc r = true) (p : Pk) : (st.runs p).length ≤ 8 := by
 unfold St.runs
 cases hr : st.rec? p with
 | none => simp
 | some r =>
  have hg := hg r (St.rec?_some hr).1
  unfold goodRc at hg
  simp only [Bool.and_eq_true] at hg
  have := hg.2.2.2
  unfold depsB at this
  simp only [Bool.and_eq_true, decide_eq_true_eq] at this
  exact this.1
theorem sl1 (b0 o0 nl cw : Nat) (aR : Option Addr) (cR nr : Nat) (hz1 : 1 ≤ nl) (hnr1 : nl - 1 = nr) (hif : (cw = 1 ∧ aR = some ⟨b0, o0, none⟩ ∧ cR = 0) ∨ (¬ cw = 1 ∧ aR = some ⟨b0, o0 + 2, none⟩ ∧ cR = cw - 1)) (W : World) :
  (Instr.slice 60 (.slice (some ⟨b0, o0, none⟩) nl cw) (some (.int .i64 1)) none none).run Tryz.prog W = .ok (.slice aR nr cR) W := by
 have hs : (sizeOf (Tryz.prog.elem 60)).run Tryz.prog W = .ok 2 W := by kernel_rfl
 rw [run_slice_l W _ _ _ _ (by kernel_rfl) .i64 1 (by omega) (by omega), hs]
 rcases hif with ⟨rfl, rfl, rfl⟩ | ⟨h, rfl, rfl⟩
 ·simp [Result.andThen, sliced, hnr1]
 ·simp [Result.andThen, sliced, hnr1, h, Addr.add_lit]
def MeetAt (st : St) (pool : List Pk) (v vp : Value) (left : Int) (n : Nat) : Prop := ∀ (w : World) (vw : Value) (ws : List Dp) (vc : Value) (ch : List Pk) (b : Nat) (made : Int) (res : Res × Nat),
  RefAt zAll w v st → PkgsAt zAll w vp pool → DepsAt zAll w vw ws → PkgsAt zAll w vc ch → made + b = left → 0 ≤ made → left ≤ 100000 → ws.length + 8 * b ≤ 1000000 → ch.length + b ≤ 1000000 → meetF (st.fitsP pool) st.runs n b ws ch = some res →
  Calls Tryz.prog 55 #[v, vp, vw, vc, .int .i64 made, .int .i64 left] w (MeetP left w res)
theorem rmeet_nil (st : St) (hs : st.seeds.length ≤ 1000) (hr : st.recs.length ≤ 1000) (hg : ∀ r ∈ st.recs, goodRc r = true) (pool : List Pk) (v vp : Value) (left : Int) (n : Nat) (w : World) (vw : Value) (vc : Value) (ch : List Pk) (b : Nat) (made : Int) (res : Res × Nat) (h1 : RefAt zAll w v st) (h2 : PkgsAt zAll w vp pool) (h3 : DepsAt zAll w vw []) (h4 : PkgsAt zAll w vc ch) (hm : made + b = left) (hm0 : 0 ≤ made) (hlf : left ≤ 100000) (hw8 : ([] : List Dp).length + 8 * b ≤ 1000000) (hc8 : ch.length + b ≤ 1000000) (h : meetF (st.fitsP pool) st.runs (n + 1) b [] ch = some res) :
  Calls Tryz.prog 55 #[v, vp, vw, vc, .int .i64 made, .int .i64 left] w (MeetP left w res) := by
 unfold meetF at h
 obtain rfl := sIj h
 obtain ⟨a1, c1, a2, c2, rfl, -, -⟩ := h1.form
 obtain ⟨a3, c3, rfl, -⟩ := h3
 have h4' := h4
 obtain ⟨a4, c4, rfl, -⟩ := h4'
 obtain ⟨n1, hn1⟩ : ∃ n, n = st.seeds.length := ⟨_, rfl⟩
 obtain ⟨n2, hn2⟩ : ∃ n, n = st.recs.length := ⟨_, rfl⟩
 obtain ⟨n4, hn4⟩ : ∃ n, n = ch.length := ⟨_, rfl⟩
 rw [← hn4] at h4 ⊢
 rw [← hn1, ← hn2]
 obtain ⟨w0, hw0, hb0, hx0, y1, y2⟩ := aBk w #[.slice a1 n1 c1, .slice a2 n2 c2] 28
 have HB := hdL hb0; have H4 := hdL (h4.below hb0); have HM := hdL hm
 simp only [List.length_nil]
 clear h1 h2 h4 hb0 hx0 hn1 hn2 hn4 hs hr hg hm hm0 hw8 hc8 y1 y2
 go_enter Tryz.func55, Tryz.ntmps55
 go_wp2_with fail
 go_ret3
 refine ⟨HB.out, _, ?_, H4.out⟩
 have := HM.out
 rw [show (left - (b : Int)) = made from by omega]
 rfl
theorem rmeet_step (st : St) (hs : st.seeds.length ≤ 1000) (hr : st.recs.length ≤ 1000) (hg : ∀ r ∈ st.recs, goodRc r = true) (pool : List Pk) (v vp : Value) (left : Int) (n : Nat) (ih : MeetAt st pool v vp left n) (w : World) (vw : Value) (d : Dp) (ws : List Dp) (vc : Value) (ch : List Pk) (b : Nat) (made : Int) (res : Res × Nat) (h1 : RefAt zAll w v st) (h2 : PkgsAt zAll w vp pool) (h3 : DepsAt zAll w vw (d :: ws)) (h4 : PkgsAt zAll w vc ch) (hm : made + b = left) (hm0 : 0 ≤ made) (hlf : left ≤ 100000) (hw8 : (d :: ws).length + 8 * b ≤ 1000000) (hc8 : ch.length + b ≤ 1000000) (h : meetF (st.fitsP pool) st.runs (n + 1) b (d :: ws) ch = some res) :
  Calls Tryz.prog 55 #[v, vp, vw, vc, .int .i64 made, .int .i64 left] w (MeetP left w res) := by
 unfold meetF at h
 have hwl := fun W (q : Pk) v0 v1 (hd : DepAt zAll W v0 v1 d) => rwill_any W zAll v0 v1 d hd q
 have hft := fun W (hW : Below w.heap.size w W) v0 v1 (hd : DepAt zAll W v0 v1 d) => rfitsP_any W zAll v st (h1.below hW) hs hr zAll vp pool (h2.below hW) zAll v0 v1 d hd
 have hrc := fun W (hW : Below w.heap.size w W) (q : Pk) => rrec_any W zAll v st (h1.below hW) q
 have hih := fun W (hW : Below w.heap.size w W) vw ws vc ch (b : Nat) made res g3 g4 g5 g6 g7 g8 g9 => ih W vw ws vc ch b made res (h1.below hW) (h2.below hW) g3 g4 g5 g6 hlf g7 g8 g9
 obtain ⟨a1, c1, a2, c2, rfl, -, -⟩ := h1.form
 obtain ⟨ap, cp, rfl, -⟩ := h2
 have h3' := h3
 obtain ⟨aw, cw, rfl, hbw0, hcs⟩ := h3'
 obtain ⟨b0, o0, e00, -, -, hcs2⟩ := hcs (by simp)
 subst e00
 clear hcs
 obtain ⟨v0, v1, c0, c1', hda⟩ := hcs2 0 d rfl
 rw [Nat.zero_mul, Nat.add_zero] at c0 c1'
 have hda' := hda
 obtain ⟨rfl, -, ag, cg, rfl, -⟩ := hda'
 obtain ⟨D, -, hD, hD2, -⟩ := strV_is d.1
 rw [hD] at c0 hda
 have h4' := h4
 obtain ⟨ac, cc, rfl, hbc, -⟩ := h4'
 have hcap := hbw0.cap
 have hle := hbw0.le
 obtain ⟨n1, hn1⟩ : ∃ n, n = st.seeds.length := ⟨_, rfl⟩
 obtain ⟨n2, hn2⟩ : ∃ n, n = st.recs.length := ⟨_, rfl⟩
 obtain ⟨np, hnp⟩ : ∃ n, n = pool.length := ⟨_, rfl⟩
 obtain ⟨nc, hnc⟩ : ∃ n, n = ch.length := ⟨_, rfl⟩
 obtain ⟨ng, hng⟩ : ∃ n, n = d.2.length := ⟨_, rfl⟩
 obtain ⟨nr, hnr⟩ : ∃ n, n = ws.length := ⟨_, rfl⟩
 simp only [List.length_cons, ← hnr] at hle hw8 h3 ⊢
 rw [← hng] at c1' hda
 rw [← hnc] at h4 hc8 ⊢
 rw [← hnp, ← hn1, ← hn2] at hft hih ⊢
 rw [← hn1, ← hn2] at hrc
 have hrest := DepsAt.rest hnr h3
 obtain ⟨nl, hnl⟩ : ∃ n, n = nr + 1 := ⟨_, rfl⟩
 rw [← hnl] at hle hw8 h3 ⊢
 have hz : ((nl : Int) == 0) = false := by simp; omega
 have hz1 : 1 ≤ nl := by omega
 have hnr1 : nl - 1 = nr := by omega
 obtain ⟨w0, hw0, hb0, hx0, y1, y2⟩ := aBk w #[.slice a1 n1 c1, .slice a2 n2 c2] 28
 obtain ⟨wd, hwd, hbd, hxd, y3, y4⟩ := aBk w0 #[.string D, .slice ag ng cg] 59
 obtain ⟨Bd, hBd⟩ : ∃ b, w0.heap.size = b := ⟨_, rfl⟩
 have g0 := (hbd.block _ (by omega)).trans hx0
 rw [hBd] at hxd
 have hb01 := hb0.trans (hbd.mono hb0.size)
 replace c0 := bkp hb0 _ _ c0
 replace c1' := bkp hb0 _ _ c1'
 have HB := hdL hb01; have HS := hdL g0; have HX := hdL hxd; have HDA := hdL hda; have HD := hdL hD2; have HDV := hdL hD
 have HFLN := hdL (show (st.fitsP pool d).length ≤ 2000 from Nat.le_trans (fitsP_len st pool d) (by omega)); have HRU := hdL (fun p => runs_lenG hg p)
 have HWL := hdL hwl; have HFT := hdL hft; have HRC := hdL hrc; have HIH := hdL hih; have HCH := hdL h4; have HR := hdL hrest; have HM := hdL (And.intro hm (And.intro hm0 hlf)); have HH := hdL h
 have HN := hdL (And.intro hnc (And.intro hnr hnl)); have HG := hdL hg; have HL := hdL (And.intro hw8 hc8); have HBC := hdL hbc
 clear ih hwl hft hrc hih h1 h3 h4 hda hD hD2 hb0 hbd hb01 hx0 hxd g0 hrest hm hm0 hlf h hg hs hr hw8 hc8 hbw0 hcs2 hbc hn1 hn2 hnp hnc hng hnr hnl y1 y2 y3 y4
 have hncl : nc ≤ 8796093022208 := by rw [HN.out.1]; exact HBC.out.max
 have hRW : (cw = 1 ∧ DepsAt zAll wd (.slice (some ⟨b0, o0, none⟩) nr 0) ws) ∨ (¬ cw = 1 ∧ DepsAt zAll wd (.slice (some ⟨b0, o0 + 2, none⟩) nr (cw - 1)) ws) := by
  by_cases h : cw = 1
  ·exact .inl ⟨h, (HR.out.below HB.out).nilled (by have := HN.out.2; omega)⟩
  ·exact .inr ⟨h, HR.out.below HB.out⟩
 have HRW := hdL hRW
 clear hRW
 go_enter Tryz.func55, Tryz.ntmps55
 obtain ⟨aR, cR, HR2, hif⟩ : ∃ (aR : Option Addr) (cR : Nat), Hid (DepsAt zAll wd (.slice aR nr cR) ws) ∧ ((cw = 1 ∧ aR = some ⟨b0, o0, none⟩ ∧ cR = 0) ∨ (¬ cw = 1 ∧ aR = some ⟨b0, o0 + 2, none⟩ ∧ cR = cw - 1)) := by
  rcases HRW.out with ⟨h, h2⟩ | ⟨h, h2⟩
  ·exact ⟨_, _, hdL h2, .inl ⟨h, rfl, rfl⟩⟩
  ·exact ⟨_, _, hdL h2, .inr ⟨h, rfl, rfl⟩⟩
 have hsl := sl1 b0 o0 nl cw aR cR nr hz1 hnr1 hif
 clear hif
 go_wp2_with fail
 clear hsl
 go_loopw [39] (fun x wr => ∃ k : Nat, x = .int .i64 k ∧ k ≤ nc ∧ Hid ((ch.take k).find? (fun p => decide (p.1 = d.1)) = none) ∧ Hid (Below wd.heap.size wd wr)) (fun x _ => nc - (intOf x).toNat)
 case atStart => exact ⟨0, rfl, Nat.zero_le _, rfl, Below.refl _ _⟩
 case round =>
  obtain ⟨k, rfl, hkn, hno, hbw⟩ := hrel
  have H0 := hdL (HB.out.trans (hbw.out.mono HB.out.size))
  have hgS := (hbw.out.block _ (loh HS.out)).trans HS.out
  have hgX := (hbw.out.block _ (loh HX.out)).trans HX.out
  by_cases hlt : k < nc
  ·obtain ⟨q, hq⟩ : ∃ q, ch[k]? = some q := ⟨_, gEg (by rw [← HN.out.1]; exact hlt)⟩
   obtain ⟨bC, oC, S, rfl, hS, d0, d1, d2, d3⟩ := (HCH.out.below H0.out).cells hq
   obtain ⟨S', -, hS', hS2, -⟩ := strV_is q.1
   obtain rfl : S = S' := by rw [hS] at hS'; injection hS'
   have he := str_eqb S D q.1 d.1 hS2 HD.out
   obtain ⟨q1, hq1⟩ : ∃ x, q.2.1 = x := ⟨_, rfl⟩
   obtain ⟨q2, hq2⟩ : ∃ x, q.2.2.1 = x := ⟨_, rfl⟩
   obtain ⟨q3, hq3⟩ : ∃ x, q.2.2.2 = x := ⟨_, rfl⟩
   rw [hq1] at d1; rw [hq2] at d2; rw [hq3] at d3
   obtain ⟨w3, hw3, hb3, hx3, z1, z2⟩ := aBk wr #[.string S, .int .i64 q1, .int .i64 q2, .int .i64 q3] 41
   have H3 := hdL (H0.out.trans (hb3.mono H0.out.size))
   have hwl := HWL.out w3 q _ _ (HDA.out.below H3.out)
   rw [hS, hq1, hq2, hq3] at hwl
   obtain ⟨B3, hB3⟩ : ∃ b, wr.heap.size = b := ⟨_, rfl⟩
   rw [hB3] at hx3
   have gX := (hb3.block _ (loh hgX)).trans hgX
   have gS := (hb3.block _ (loh hgS)).trans hgS
   obtain ⟨x0, x1⟩ := cells2 gX
   obtain ⟨k0, k1, k2, k3⟩ := cells4 hx3
   have HQ := hdL hq; have HWL3 := hdL hwl; have GS := hdL gS; have HB3 := hdL (hbw.out.trans (hb3.mono hbw.out.size)); have HBR3 := hdL hb3
   clear hq hS hS' hS2 hq1 hq2 hq3 hx3 hb3 hwl gX gS hgX hgS z1 z2
   obtain ⟨t1, ht1⟩ : ∃ t, t = decide (q.1 = d.1) := ⟨_, rfl⟩
   rw [← ht1] at he
   cases t1
   ·have HNO := hdL (find_nextP HQ.out hno.out ht1.symm)
    clear ht1
    go_wp2_with fail
    go_roundw
    case rel => exact ⟨k + 1, by go_num, hlt, HNO, HB3⟩
    case measure => simp [intOf]; omega
   ·have hfd := find_hereP HQ.out hno.out ht1.symm
    have hres := HH.out
    rw [hfd] at hres
    dsimp only at hres
    clear ht1 hfd
    obtain ⟨t2, ht2⟩ : ∃ t, t = willB d q := ⟨_, rfl⟩
    rw [← ht2] at HWL3 hres
    cases t2
    ·have HRES := hdL (sIj hres)
     clear hres ht2
     go_wp2_with fail
     refine HWL3.out.mono ?_
     rintro e w4 ⟨rfl, h4⟩
     have H4 := hdL (H3.out.trans (h4.mono H3.out.size))
     clear h4 x0 x1 k0 k1 k2 k3
     go_wp2_with fail
     go_ret3
     rw [← HRES.out]
     refine ⟨H4.out, ?_⟩
     have := HM.out.1
     show Ending.returned (.tuple #[.slice none 0 0, .int .i64 made, .int .i64 12]) = Ending.returned (.tuple #[.slice none 0 0, .int .i64 (left - (b : Int)), .int .i64 12])
     rw [show (left - (b : Int)) = made from by omega]
    ·have HRES := hdL hres
     clear hres ht2
     go_wp2_with fail
     refine HWL3.out.mono ?_
     rintro e w4 ⟨rfl, h4⟩
     have H4 := hdL (H3.out.trans (h4.mono H3.out.size))
     have hb4' := (HBR3.out.trans (h4.mono HBR3.out.size))
     have gS := (h4.block _ (loh GS.out)).trans GS.out
     obtain ⟨s0, s1⟩ := cells2 gS
     have hih := HIH.out w4 H4.out _ ws _ ch _ made res (HR2.out.below (hbw.out.trans (hb4'.mono hbw.out.size))) (HCH.out.below H4.out) HM.out.1 HM.out.2.1 (by have := HL.out.1; have := HN.out.2; omega) (by have := HL.out.2; have := HN.out.1; omega) HRES.out
     have HI := hdL hih
     clear h4 gS hih x0 x1 k0 k1 k2 k3
     go_wp2_with fail
     refine HI.out.mono ?_
     intro e w5 hmp
     obtain ⟨a5, n5, c5, m5, e5, rfl⟩ := hmp.form
     have HMP := hdL (hmp.back H4.out)
     clear hmp s0 s1
     go_wp2_with fail
     go_ret3
     exact HMP.out
  ·obtain rfl : nc = k := by omega
   have hfd : ch.find? (fun p => decide (p.1 = d.1)) = none := by
    have := hno.out
    rw [tLe (by rw [← HN.out.1]; exact Nat.le_refl _)] at this
    exact this
   have hres := HH.out
   rw [hfd] at hres
   dsimp only at hres
   have hft := HFT.out wr H0.out _ _ (HDA.out.below H0.out)
   obtain ⟨s0, s1⟩ := cells2 hgS
   obtain ⟨x0, x1⟩ := cells2 hgX
   have HRES := hdL hres; have HF := hdL hft; have GS := hdL hgS
   clear hfd hres hft hgS hgX
   go_wp2_with fail
   refine HF.out.mono ?_
   rintro e wf ⟨v', rfl, hrow, hf⟩
   obtain ⟨fs, hfs⟩ : ∃ fs, fs = st.fitsP pool d := ⟨_, rfl⟩
   have HFL := hdL (show fs.length ≤ 2000 by rw [hfs]; exact HFLN.out)
   rw [← hfs] at hrow
   have hres2 := HRES.out
   rw [← hfs] at hres2
   obtain ⟨nf, hnf⟩ : ∃ n, n = fs.length := ⟨_, rfl⟩
   have hP := hrow.at (by have := HFL.out; omega)
   obtain ⟨aF, cF, rfl⟩ := hrow.form
   rw [← hnf] at hP HFL ⊢
   have HP := hdL (show PkgsAt zAll wf (.slice aF nf cF) fs from hP.keep ⟨fun _ _ _ => trivial, Nat.le_refl _, fun _ _ _ h => h⟩)
   have HNF := hdL hnf; have HR0 := hdL hres2; have hnf2 : nf ≤ 2000 := HFL.out
   have HBF := hdL (hbw.out.trans (hf.mono hbw.out.size)); have GF := hdL ((hf.block _ (loh GS.out)).trans GS.out)
   obtain ⟨iD, hiD, hzD0, hzD1, hzD2⟩ := info_parts infoDep
   have HI := hdL (And.intro hiD (And.intro hzD0 (And.intro hzD1 hzD2)))
   obtain ⟨iP, hiP, hzP0, hzP1, hzP2⟩ := info_parts infoPkg
   have HI2 := hdL (And.intro hiP (And.intro hzP0 (And.intro hzP1 hzP2)))
   have hl1 := HM.out; have hl2 := HL.out
   clear hfs hnf hP hrow hres2 hf s0 s1 x0 x1 hiD hzD0 hzD1 hzD2 hiP hzP0 hzP1 hzP2
   have HL1 := hdL hl1; have HL2 := hdL hl2
   clear hl1 hl2
   go_wp2_with fail
   go_loopw [4, 69] (fun x i wr => ∃ (k b' : Nat) (made' : Int), x = .int .i64 made' ∧ i = .int .i64 k ∧ k ≤ nf ∧ Hid (b' ≤ b ∧ made' + b' = left) ∧ 0 ≤ made' ∧ Hid (tryF (meetF (st.fitsP pool) st.runs n) st.runs ws ch b' (fs.drop k) = some res) ∧ Hid (Below wf.heap.size wf wr)) (fun _ i _ => nf - (intOf i).toNat)
   case atStart => exact ⟨0, b, made, rfl, rfl, Nat.zero_le _, hdL ⟨Nat.le_refl _, HL1.out.1⟩, HL1.out.2.1, HR0, hdL (Below.refl _ _)⟩
   case round =>
    obtain ⟨k, b', made', rfl, rfl, hkn, hbb, hm0, htr, hb2⟩ := hrel
    have HBW := hdL (HBF.out.trans (hb2.out.mono HBF.out.size)); have GR := hdL ((hb2.out.block _ (loh GF.out)).trans GF.out)
    by_cases hlt : k < nf
    ·obtain ⟨q, hq⟩ : ∃ q, fs[k]? = some q := ⟨_, gEg (by rw [← HNF.out]; exact hlt)⟩
     have hdk : fs.drop k = q :: fs.drop (k + 1) := by rw [List.drop_eq_getElem_cons (gEs.1 hq).1, (gEs.1 hq).2]
     obtain ⟨bF, oF, S, rfl, hS, c0, c1, c2, c3⟩ := (HP.out.below hb2.out).cells hq
     obtain ⟨q1, hq1⟩ : ∃ x, x = q.2.1 := ⟨_, rfl⟩
     obtain ⟨q2, hq2⟩ : ∃ x, x = q.2.2.1 := ⟨_, rfl⟩
     obtain ⟨q3, hq3⟩ : ∃ x, x = q.2.2.2 := ⟨_, rfl⟩
     rw [← hq1] at c1; rw [← hq2] at c2; rw [← hq3] at c3
     obtain ⟨w3, hw3, hb3, hx3, z1, z2⟩ := aBk wr #[.string S, .int .i64 q1, .int .i64 q2, .int .i64 q3] 41
     obtain ⟨b3, hb3e⟩ : ∃ b, wr.heap.size = b := ⟨_, rfl⟩
     rw [hb3e] at hx3
     have G03 := hdL ((hb3.block _ (loh GR.out)).trans GR.out); have G13 := hdL hx3; have HB3 := hdL (HBW.out.trans (hb3.mono HBW.out.size)); have HBL := hdL (hb2.out.trans (hb3.mono hb2.out.size))
     have HSQ := hdL (And.intro hS (And.intro hq1 (And.intro hq2 hq3)))
     have htr2 := htr.out
     rw [hdk] at htr2
     have hrc := fun W (hW : Below w.heap.size w W) => HRC.out W hW q
     rw [hS, ← hq1, ← hq2, ← hq3] at hrc
     have HRCC := hdL hrc
     clear hq hdk hS hq1 hq2 hq3 hx3 hb3 hrc z1 z2
     have hlf2 := HL1.out.2.2
     rcases b' with _ | b1
     ·have hres : (Res.budget, 0) = res := by
       unfold tryF at htr2
       exact sIj htr2
      have hml : left ≤ made' := by have := hbb.out.2; omega
      have hml2 : made' ≤ left := by have := hbb.out.2; omega
      have HRS := hdL hres
      clear htr2 hres
      go_wp2_with fail
      go_ret3
      rw [← HRS.out]
      refine ⟨HB.out.trans (HB3.out.mono HB.out.size), ?_⟩
      show Ending.returned (.tuple #[.slice none 0 0, .int .i64 made', .int .i64 60]) = Ending.returned (.tuple #[.slice none 0 0, .int .i64 (left - ((0 : Nat) : Int)), .int .i64 60])
      rw [show (left - ((0 : Nat) : Int)) = made' from by omega]
     ·unfold tryF at htr2
      obtain ⟨y, hy⟩ : ∃ y, meetF (st.fitsP pool) st.runs n b1 (ws ++ st.runs q) (ch ++ [q]) = some y := by
       cases h0 : meetF (st.fitsP pool) st.runs n b1 (ws ++ st.runs q) (ch ++ [q]) with
       | none => rw [h0] at htr2; cases htr2
       | some y => exact ⟨y, rfl⟩
      rw [hy] at htr2
      obtain ⟨x2, b2⟩ := y
      have hb12 : b2 ≤ b1 := meetF_le hy
      have hml : ¬ left ≤ made' := by have := hbb.out.2; omega
      have hml3 : made' < left := by omega
      have HT2 := hdL htr2; have HY := hdL hy
      clear htr2 hy
      obtain ⟨k0, k1, k2, k3⟩ := cells4 G13.out
      obtain ⟨s0, s1⟩ := cells2 G03.out
      go_wp2_with fail
      refine (HRCC.out w3 (HB.out.trans (HB3.out.mono HB.out.size))).mono ?_
      intro e w4 hrp
      obtain ⟨rs, rx, ry, rz, rt, ra1, rn1, rc1, ra2, rn2, rc2, ra3, rc3, rb, rfl, hdp, h4⟩ := rrec_runs hrp
      obtain ⟨m3, hm3⟩ : ∃ m, m = (st.runs q).length := ⟨_, rfl⟩
      rw [← hm3] at hdp ⊢
      have hm38 : m3 ≤ 8 := by rw [hm3]; exact HRU.out q
      obtain ⟨w5, hw5, hb5, hx5, z1, z2⟩ := aBk w4 #[.string rs, .int .i64 rx, .int .i64 ry, .int .i64 rz, .string rt, .slice ra1 rn1 rc1, .slice ra2 rn2 rc2, .slice ra3 m3 rc3] 62
      obtain ⟨Bq, hBq⟩ : ∃ b, w4.heap.size = b := ⟨_, rfl⟩
      rw [hBq] at hx5
      have hb45 := h4.trans (hb5.mono h4.size)
      have G05 := hdL ((hb45.block _ (loh G03.out)).trans G03.out); have G15 := hdL ((hb45.block _ (loh G13.out)).trans G13.out); have G25 := hdL hx5; have HB5 := hdL (HB3.out.trans (hb45.mono HB3.out.size)); have HBL5 := hdL (HBL.out.trans (hb45.mono HBL.out.size)); have HD5 := hdL (hdp.below hb5); have HM3 := hdL hm3
      clear hrp hdp h4 hb5 hx5 hb45 hm3 z1 z2 k0 k1 k2 k3 s0 s1 c0 c1 c2 c3
      have hnr2 : nr ≤ 1000000 := by have := HL2.out.1; have := HN.out.2.2; omega
      have hnc2 : nc ≤ 1000000 := by have := HL2.out.2; omega
      go_upto_region 20 with fail
      go_cut [23] (fun x wx => ∃ (aA : Option Addr) (cA : Nat), x = .slice aA (nr + m3) cA ∧ Hid (DepsAt zAll wx (.slice aA (nr + m3) cA) (ws ++ st.runs q)) ∧ Hid (wx.heap[w.heap.size]? = some (.cells #[.slice a1 n1 c1, .slice a2 n2 c2] 28 (0, 0))) ∧ Hid (wx.heap[b3]? = some (.cells #[.string S, .int .i64 q1, .int .i64 q2, .int .i64 q3] 41 (0, 0))) ∧ Hid (Below wd.heap.size wd wx) ∧ Hid (Below wf.heap.size wf wx))
      case first =>
       refine UpV.start [(5, fun W : World => W.cell? ⟨Bq, 7, none⟩ = some (.slice ra3 m3 rc3))] (by kernel_rfl) ?_
       obtain ⟨Wd, hWd⟩ : ∃ W, W = w5.drew := ⟨_, rfl⟩
       rw [← hWd]
       have eh : w5.heap = Wd.heap := by rw [hWd]; rfl
       have g0 := G05.out; have g1 := G15.out; have g2 := G25.out; have hdp := HD5.out
       rw [eh] at g0 g1 g2
       have g0 := hdL g0; have g1 := hdL g1; have g2 := hdL g2; have hbd5 := hdL (show Below wd.heap.size wd Wd by rw [hWd]; exact HB5.out.drew); have hbl5 := hdL (show Below wf.heap.size wf Wd by rw [hWd]; exact HBL5.out.drew)
       have HDd := hdL (show DepsAt zAll Wd (.slice ra3 m3 rc3) (st.runs q) from HD5.out.below (by rw [hWd]; exact (Below.refl _ w5).drew))
       have HDW := hdL (HR2.out.below hbd5.out)
       obtain ⟨ys, hyl, hyw, hys⟩ := src_deps HDW.out
       obtain ⟨zs, hzl, hzw, hzs⟩ := src_deps HDd.out
       rw [← HN.out.2.1] at hys; rw [← HM3.out] at hzs
       have HYW := hdL hyw; have HYS := hdL hys; have HZW := hdL hzw; have HZS := hdL hzs; have HYL := hdL hyl; have HZL := hdL hzl
       clear eh hdp hyw hys hzw hzs hyl hzl hWd
       have hA0 : ∀ q ∈ ([(5, fun W : World => W.cell? ⟨Bq, 7, none⟩ = some (.slice ra3 m3 rc3))] : List (Nat × (World → Prop))), q.2 Wd := by
        intro q hq
        obtain rfl := mSg.1 hq
        exact cOh g2.out 7
       refine UpV.tp 1 (v := .slice aR nr cR) rfl (Or.inl ⟨by rfl, ?_⟩) (owe_all hA0) ?_
       ·intro w hSw; first | rfl | (go_simp; done)
       try simp only [Act.put, sqZ]
       refine UpV.tp 3 (v := .pointer (some ⟨Bq, 7, none⟩)) rfl (Or.inl ⟨by rfl, ?_⟩) (owe_all hA0) ?_
       ·intro w hSw; first | rfl | (go_simp; done)
       try simp only [Act.put, sqZ]
       refine UpV.tk 4 5 (v := .slice ra3 m3 rc3) rfl (mCs ..) (Or.inl ⟨by rfl, ?_⟩) (owe_all hA0) ?_
       ·intro w hSw; have s0 : w.cell? ⟨Bq, 7, none⟩ = some (.slice ra3 m3 rc3) := hSw; go_simp
       try simp only [Act.put, sqZ]
       refine UpV.one 0 (by kernel_rfl) rfl ?_
       intro K hK
       obtain ⟨v6, hv6, hb6, hx6, z1, z2⟩ := aBk Wd #[] 59
       obtain ⟨gE, hgE⟩ : ∃ b, Wd.heap.size = b := ⟨_, rfl⟩
       rw [hgE] at hx6
       have G06 := hdL ((hb6.block _ (loh g0.out)).trans g0.out); have G16 := hdL ((hb6.block _ (loh g1.out)).trans g1.out); have G26 := hdL ((hb6.block _ (loh g2.out)).trans g2.out); have HB6 := hdL (show Below Wd.heap.size Wd v6 from hb6)
       have HE6 := hdL hx6; have HGE := hdL (show Wd.heap.size ≤ gE from by rw [← hgE]; exact Nat.le_refl _)
       clear hb6 hx6 z1 z2
       try simp only [sqG]
       try go_simp
       try rw [hgE]
       try rw [hv6]
       refine hK.out _ _ (owe1 (fun _ => cOh G26.out 7)) ?_
       clear hK K
       try simp only [Act.put, sqZ]
       refine UpV.one 2 (by kernel_rfl) rfl ?_
       intro K hK
       have hemp := owns_emptyR v6 Wd.heap.size 59 2 HGE.out HE6.out
       refine step_append_srcs rfl (.tmp 85) (.tmp 86) 60 60 rfl Wd.heap.size 59 iD _ 2 40 Tryz.underlying60 HI.out.1 HI.out.2.1 HI.out.2.2.1 HI.out.2.2.2 rfl (by decide) (.slice (some ⟨gE, 0, none⟩) 0 0) (by first | rfl | (simp [Act.eval]; done) | (simp [Act.eval, Act.put]; done)) 0 [] hemp (.slice aR nr cR) (by first | rfl | (simp [Act.eval]; done) | (simp [Act.eval, Act.put]; done)) nr ys (HYS.out _ (Keep.below HB6.out)) (by unfold maxLen; omega) (by omega) HB6.out.size ?_
       intro a7 c7 v7 hown hgrow _ hblk
       simp only [Nat.zero_add, List.nil_append] at hown hblk ⊢
       have HB7 := hdL (below_grownR HB6.out (v := .slice (some ⟨gE, 0, none⟩) 0 0) hgrow (fun g hg => (by simpa [Value.ownBlock] using hg : gE = g) ▸ HGE.out))
       have G07 := hdL ((HB7.out.block _ (loh g0.out)).trans g0.out); have G17 := hdL ((HB7.out.block _ (loh g1.out)).trans g1.out); have G27 := hdL ((HB7.out.block _ (loh g2.out)).trans g2.out)
       have HR7 := hdL hown
       clear hown hgrow hblk hemp
       refine hK.out _ _ (owe1 (fun _ => cOh G27.out 7)) ?_
       clear hK K
       try simp only [Act.put, sqZ]
       refine UpV.one 5 (by kernel_rfl) rfl ?_
       intro K hK
       refine step_append_srcs rfl (.tmp 87) (.tmp 89) 60 60 rfl Wd.heap.size 59 iD _ 2 40 Tryz.underlying60 HI.out.1 HI.out.2.1 HI.out.2.2.1 HI.out.2.2.2 rfl (by decide) (.slice a7 nr c7) (by first | rfl | (simp [Act.eval]; done) | (simp [Act.eval, Act.put]; done)) nr ys HR7.out (.slice ra3 m3 rc3) (by first | rfl | (simp [Act.eval]; done) | (simp [Act.eval, Act.put]; done)) m3 zs (HZS.out _ (Keep.below HB7.out)) (by unfold maxLen; omega) (by omega) HB7.out.size ?_
       intro a8 c8 v8 hown hgrow _ hblk
       have hrb := row_base HR7.out
       have HB8 := hdL (below_grownR HB7.out hgrow (fun g hg => (hrb g hg).1))
       have HR8 := hdL hown
       clear hown hgrow hblk hrb
       refine hK.out _ _ (owe1 (fun h => by cases h)) ?_
       clear hK K
       try simp only [Act.put, sqZ]
       refine UpV.tp 6 (v := .slice a8 (nr + m3) c8) rfl (Or.inl ⟨by rfl, ?_⟩) (owe1 (fun h => by cases h)) ?_
       ·intro w hSw; first | rfl | (go_simp; done)
       try simp only [Act.put, sqZ]
       refine UpV.done (by kernel_rfl) ?_
       go_wp2_with fail
       go_meet
       have hrow8 := HR8.out
       have hlen : nr + m3 = (ws ++ st.runs q).length := by rw [lAp, ← HN.out.2.1, ← HM3.out]
       rw [hlen] at hrow8 ⊢
       refine ⟨a8, c8, rfl, hdL (DepsAt.of_owns hrow8 ((HYW.out.keep (Keep.below HB8.out)).app (HZW.out.keep (Keep.below HB8.out)) HYL.out) (fun _ _ => trivial) (by rw [← hlen]; omega)), hdL ((HB8.out.block _ (loh g0.out)).trans g0.out), hdL ((HB8.out.block _ (loh g1.out)).trans g1.out), hdL (hbd5.out.trans (HB8.out.mono hbd5.out.size)), hdL (hbl5.out.trans (HB8.out.mono hbl5.out.size))⟩
      obtain ⟨aA, cA, rfl, HDA, G06, G16, HB6, HBL6⟩ := hcut
      obtain ⟨w6, hw6⟩ : ∃ W, W = wc := ⟨wc, rfl⟩
      subst hw6
      have HDA6 := HDA
      have HCS := hdL (fun (Wd : World) (h0 : Below w6.heap.size w6 Wd) W (hW : Below Wd.heap.size Wd W) => show Src Tryz.prog 4 22 (.slice ac nc cc) nc (ch.flatMap pkL) W from by
       have h1 := (HCH.out.below (HB.out.trans ((HB6.out.trans ((h0.trans (hW.mono h0.size)).mono HB6.out.size)).mono HB.out.size))).src
       rw [← HN.out.1] at h1
       exact h1)
      have hih2 := fun W (hW : Below w6.heap.size w6 W) vA vB (g1 : DepsAt zAll W vA (ws ++ st.runs q)) (g2 : PkgsAt zAll W vB (ch ++ [q])) => HIH.out W (HB.out.trans ((HB6.out.trans (hW.mono HB6.out.size)).mono HB.out.size)) vA _ vB _ b1 (made' + 1) (x2, b2) g1 g2 (by have := hbb.out.2; omega) (by omega) (by rw [lAp]; have := HL2.out.1; have := HN.out.2.2; have := HN.out.2.1; have := HM3.out; have := hbb.out.1; omega) (by rw [lAp, lSg]; have := HL2.out.2; have := HN.out.1; have := hbb.out.1; omega) HY.out
      have HIH2 := hdL hih2
      clear hih2
      go_upto_region 21 with fail
      go_cut [24, 25, 26] (fun x y z wx => ∃ (a : Option Addr) (k2 c : Nat) (m e0 : Int), x = .slice a k2 c ∧ y = .int .i64 m ∧ z = .int .i64 e0 ∧ Hid (MeetP left w6 (x2, b2) (.returned (.tuple #[.slice a k2 c, .int .i64 m, .int .i64 e0])) wx))
      case first =>
       refine UpV.start [(11, fun W : World => W.cell? ⟨w.heap.size, 0, none⟩ = some (.slice a1 n1 c1) ∧ W.cell? ⟨w.heap.size, 1, none⟩ = some (.slice a2 n2 c2)), (7, fun W : World => W.cell? ⟨b3, 0, none⟩ = some (.string S) ∧ W.cell? ⟨b3, 1, none⟩ = some (.int .i64 q1) ∧ W.cell? ⟨b3, 2, none⟩ = some (.int .i64 q2) ∧ W.cell? ⟨b3, 3, none⟩ = some (.int .i64 q3))] (by kernel_rfl) ?_
       obtain ⟨Wd, hWd⟩ : ∃ W, W = w6.drew := ⟨_, rfl⟩
       rw [← hWd]
       have eh : w6.heap = Wd.heap := by rw [hWd]; rfl
       have g0 := G06.out; have g1 := G16.out
       rw [eh] at g0 g1
       have G07 := hdL g0; have G17 := hdL g1; have HB7 := hdL (show Below w6.heap.size w6 Wd by rw [hWd]; exact (Below.refl _ w6).drew)
       have HB6 := hdL (Below.refl Wd.heap.size Wd)
       clear eh g0 g1 hWd
       have hA0 : ∀ q ∈ ([(11, fun W : World => W.cell? ⟨w.heap.size, 0, none⟩ = some (.slice a1 n1 c1) ∧ W.cell? ⟨w.heap.size, 1, none⟩ = some (.slice a2 n2 c2)), (7, fun W : World => W.cell? ⟨b3, 0, none⟩ = some (.string S) ∧ W.cell? ⟨b3, 1, none⟩ = some (.int .i64 q1) ∧ W.cell? ⟨b3, 2, none⟩ = some (.int .i64 q2) ∧ W.cell? ⟨b3, 3, none⟩ = some (.int .i64 q3))] : List (Nat × (World → Prop))), q.2 Wd := by
        intro q hq
        rcases List.mem_cons.1 hq with rfl | hq
        ·exact ⟨cOh G07.out 0, cOh G07.out 1⟩
        ·obtain rfl := mSg.1 hq
         exact ⟨cOh G17.out 0, cOh G17.out 1, cOh G17.out 2, cOh G17.out 3⟩
       refine UpV.tp 1 (v := .slice ap np cp) rfl (Or.inl ⟨by rfl, ?_⟩) (owe_all hA0) ?_
       ·intro w hSw; first | rfl | (go_simp; done)
       try simp only [Act.put, sqZ]
       refine UpV.tp 2 (v := .slice aA (nr + m3) cA) rfl (Or.inl ⟨by rfl, ?_⟩) (owe_all hA0) ?_
       ·intro w hSw; first | rfl | (go_simp; done)
       try simp only [Act.put, sqZ]
       refine UpV.tp 4 (v := .slice ac nc cc) rfl (Or.inl ⟨by rfl, ?_⟩) (owe_all hA0) ?_
       ·intro w hSw; first | rfl | (go_simp; done)
       try simp only [Act.put, sqZ]
       refine UpV.tp 9 (v := .int .i64 (made' + 1)) rfl (Or.inl ⟨by rfl, ?_⟩) (owe_all hA0) ?_
       ·intro w hSw; first | rfl | (go_simp; done)
       try simp only [Act.put, sqZ]
       refine UpV.tp 10 (v := .int .i64 left) rfl (Or.inl ⟨by rfl, ?_⟩) (owe_all hA0) ?_
       ·intro w hSw; first | rfl | (go_simp; done)
       try simp only [Act.put, sqZ]
       refine UpV.tk 0 11 (v := .agg #[.slice a1 n1 c1, .slice a2 n2 c2]) rfl (mCs ..) (Or.inl ⟨by rfl, ?_⟩) (owe_all hA0) ?_
       ·intro w hSw; obtain ⟨s0, s1⟩ := hSw; go_simp
       try simp only [Act.put, sqZ]
       refine UpV.tk 6 7 (v := .agg #[.string S, .int .i64 q1, .int .i64 q2, .int .i64 q3]) rfl (mCm _ (mCs ..)) (Or.inl ⟨by rfl, ?_⟩) (owe_all hA0) ?_
       ·intro w hSw; obtain ⟨s0, s1, s2, s3⟩ := hSw; go_simp
       try simp only [Act.put, sqZ]
       have G0D := G07; have G1D := G17
       have HB7W := HB7
       have HB6D := HB6
       have G08 := G07; have G18 := G17; have HB8 := HB6
       refine UpV.two 3 7 (by kernel_rfl) rfl rfl ?_ ?_
       ·intro K hK
        obtain ⟨v9, hv9, hb9, hx9, z1, z2⟩ := aBk Wd #[] 41
        obtain ⟨gE, hgE⟩ : ∃ b, Wd.heap.size = b := ⟨_, rfl⟩
        rw [hgE] at hx9
        have G09 := hdL ((hb9.block _ (loh G08.out)).trans G08.out); have G19 := hdL ((hb9.block _ (loh G18.out)).trans G18.out); have HB9 := hdL (HB8.out.trans (hb9.mono HB8.out.size))
        have HE9 := hdL hx9; have HGE := hdL (show Wd.heap.size ≤ gE from by rw [← hgE]; exact HB8.out.size)
        clear hb9 hx9 z1 z2
        try simp only [sqG]
        try go_simp
        try rw [hgE]
        try rw [hv9]
        refine hK.out _ _ (owe2 (fun _ => ⟨cOh G09.out 0, cOh G09.out 1⟩) (fun _ => ⟨cOh G19.out 0, cOh G19.out 1, cOh G19.out 2, cOh G19.out 3⟩)) ?_
        clear hK K
        try simp only [Act.put, sqZ]
        refine UpV.two 5 7 (by kernel_rfl) rfl rfl ?_ ?_
        ·intro K hK
         have hemp := owns_emptyR v9 Wd.heap.size 41 4 HGE.out HE9.out
         refine step_append_srcs rfl (.tmp 95) (.tmp 96) 22 22 rfl Wd.heap.size 41 iP _ 4 40 Tryz.underlying22 HI2.out.1 HI2.out.2.1 HI2.out.2.2.1 HI2.out.2.2.2 rfl (by decide) (.slice (some ⟨gE, 0, none⟩) 0 0) (by first | rfl | (simp [Act.eval]; done) | (simp [Act.eval, Act.put]; done)) 0 [] hemp (.slice ac nc cc) (by first | rfl | (simp [Act.eval]; done) | (simp [Act.eval, Act.put]; done)) nc (ch.flatMap pkL) (HCS.out _ HB7W.out _ HB9.out) (by unfold maxLen; omega) (by omega) HB9.out.size ?_
         intro a10 c10 v10 hown hgrow _ hblk
         simp only [Nat.zero_add, List.nil_append] at hown hblk ⊢
         have hbn := below_grownR HB9.out (v := .slice (some ⟨gE, 0, none⟩) 0 0) hgrow (fun g hg => (by simpa [Value.ownBlock] using hg : gE = g) ▸ HGE.out)
         have HB10 := hdL hbn; have G010 := hdL ((hbn.block _ (loh G0D.out)).trans G0D.out); have G110 := hdL ((hbn.block _ (loh G1D.out)).trans G1D.out)
         have HR10 := hdL hown
         clear hown hgrow hblk hemp hbn
         refine hK.out _ _ (owe2 (fun _ => ⟨cOh G010.out 0, cOh G010.out 1⟩) (fun _ => ⟨cOh G110.out 0, cOh G110.out 1, cOh G110.out 2, cOh G110.out 3⟩)) ?_
         clear hK K
         try simp only [Act.put, sqZ]
         refine UpV.one 7 (by kernel_rfl) rfl ?_
         intro K hK
         obtain ⟨v11, hv11, hb11, hx11, z1, z2⟩ := aBk v10 #[.string S, .int .i64 q1, .int .i64 q2, .int .i64 q3] 41
         obtain ⟨gS, hgS⟩ : ∃ b, v10.heap.size = b := ⟨_, rfl⟩
         rw [hgS] at hx11
         have G011 := hdL ((hb11.block _ (loh G010.out)).trans G010.out); have G111 := hdL ((hb11.block _ (loh G110.out)).trans G110.out); have HB11 := hdL (HB10.out.trans (hb11.mono HB10.out.size))
         have HR11 := hdL (row_below HR10.out hb11)
         have HS11 := hdL hx11
         clear hb11 hx11 z1 z2
         try simp only [sqG]
         try go_simp
         try rw [hgS]
         try rw [hv11]
         refine hK.out _ _ (owe2 (fun _ => ⟨cOh G011.out 0, cOh G011.out 1⟩) (fun h => by cases h)) ?_
         clear hK K
         try simp only [Act.put, sqZ]
         refine UpV.one 8 (by kernel_rfl) rfl ?_
         intro K hK
         have hsn := src_pk (q := q) HSQ.out.1 (by rw [← HSQ.out.2.1, ← HSQ.out.2.2.1, ← HSQ.out.2.2.2]; exact HS11.out)
         refine step_append_srcs rfl (.tmp 97) (.tmp 99) 22 22 rfl Wd.heap.size 41 iP _ 4 40 Tryz.underlying22 HI2.out.1 HI2.out.2.1 HI2.out.2.2.1 HI2.out.2.2.2 rfl (by decide) (.slice a10 nc c10) (by first | rfl | (simp [Act.eval]; done) | (simp [Act.eval, Act.put]; done)) nc (ch.flatMap pkL) HR11.out (.slice (some ⟨gS, 0, none⟩) 1 1) (by first | rfl | (simp [Act.eval]; done) | (simp [Act.eval, Act.put]; done)) 1 (pkL q) hsn (by unfold maxLen; omega) (by omega) HB11.out.size ?_
         intro aB cB v12 hown hgrow _ hblk
         have hrb := row_base HR11.out
         have hbn := below_grownR HB11.out hgrow (fun g hg => (hrb g hg).1)
         have HB12 := hdL hbn; have G012 := hdL ((hbn.block _ (loh G0D.out)).trans G0D.out)
         have HR12 := hdL hown
         clear hown hgrow hblk hrb hsn hbn
         refine hK.out _ _ (owe2 (fun _ => ⟨cOh G012.out 0, cOh G012.out 1⟩) (fun h => by cases h)) ?_
         clear hK K
         try simp only [Act.put, sqZ]
         have hb6n := HB7.out.trans (HB12.out.mono HB7.out.size)
         have HB6n := hdL hb6n; have s0 := cOh G012.out 0; have s1 := cOh G012.out 1
         have hch2 : PkgsAt zAll v12 (.slice aB (nc + 1) cB) (ch ++ [q]) := by
          have h1 : PkRow Wd.heap.size v12 (.slice aB (nc + 1) cB) (ch ++ [q]) := PkRow.push HN.out.1 HR12.out
          have h2 := h1.at (by rw [lAp, ← HN.out.1]; simp; omega)
          exact h2.keep ⟨fun _ _ _ => trivial, Nat.le_refl _, fun _ _ _ h => h⟩
         have hih := HIH2.out v12 hb6n (.slice aA (nr + m3) cA) (.slice aB (nc + 1) cB) (HDA6.out.below hb6n) hch2
         have HIH3 := hdL hih
         clear hih hch2 hb6n
         refine UpV.one 11 (by kernel_rfl) rfl ?_
         intro K hK
         try simp only [sqG]
         try go_simp
         go_at_call 55
         refine HIH3.out.mono ?_
         intro e w7 hmp
         obtain ⟨a9, k9, c9, m9, e9, rfl⟩ := hmp.form
         have HMP := hdL (hmp.back HB6n.out)
         clear hmp s0 s1
         try go_simp
         refine hK.out _ _ (owe2 (fun h => by cases h) (fun h => by cases h)) ?_
         clear hK K
         try simp only [Act.put, sqZ]
         refine UpV.tp 12 (v := .tuple #[.slice a9 k9 c9, .int .i64 m9, .int .i64 e9]) rfl (Or.inl ⟨by rfl, ?_⟩) (owe2 (fun h => by cases h) (fun h => by cases h)) ?_
         ·intro w hSw; first | rfl | (go_simp; done)
         try simp only [Act.put, sqZ]
         refine UpV.tp 13 (v := .slice a9 k9 c9) rfl (Or.inl ⟨by rfl, ?_⟩) (owe2 (fun h => by cases h) (fun h => by cases h)) ?_
         ·intro w hSw; first | rfl | (go_simp; done)
         try simp only [Act.put, sqZ]
         refine UpV.tp 14 (v := .int .i64 m9) rfl (Or.inl ⟨by rfl, ?_⟩) (owe2 (fun h => by cases h) (fun h => by cases h)) ?_
         ·intro w hSw; first | rfl | (go_simp; done)
         try simp only [Act.put, sqZ]
         refine UpV.tp 15 (v := .int .i64 e9) rfl (Or.inl ⟨by rfl, ?_⟩) (owe2 (fun h => by cases h) (fun h => by cases h)) ?_
         ·intro w hSw; first | rfl | (go_simp; done)
         try simp only [Act.put, sqZ]
         refine UpV.tp 16 (v := .slice a9 k9 c9) rfl (Or.inl ⟨by rfl, ?_⟩) (owe2 (fun h => by cases h) (fun h => by cases h)) ?_
         ·intro w hSw; first | rfl | (go_simp; done)
         try simp only [Act.put, sqZ]
         refine UpV.tp 17 (v := .int .i64 m9) rfl (Or.inl ⟨by rfl, ?_⟩) (owe2 (fun h => by cases h) (fun h => by cases h)) ?_
         ·intro w hSw; first | rfl | (go_simp; done)
         try simp only [Act.put, sqZ]
         refine UpV.tp 18 (v := .int .i64 e9) rfl (Or.inl ⟨by rfl, ?_⟩) (owe2 (fun h => by cases h) (fun h => by cases h)) ?_
         ·intro w hSw; first | rfl | (go_simp; done)
         try simp only [Act.put, sqZ]
         refine UpV.done (by kernel_rfl) ?_
         go_wp2_with fail
         go_meet
         exact ⟨a9, k9, c9, m9, e9, rfl, rfl, rfl, HMP⟩
        ·intro K hK
         obtain ⟨v10, hv10, hb10, hx10, z1, z2⟩ := aBk v9 #[.string S, .int .i64 q1, .int .i64 q2, .int .i64 q3] 41
         obtain ⟨gS, hgS⟩ : ∃ b, v9.heap.size = b := ⟨_, rfl⟩
         rw [hgS] at hx10
         have G010 := hdL ((hb10.block _ (loh G09.out)).trans G09.out); have G110 := hdL ((hb10.block _ (loh G19.out)).trans G19.out); have HB10 := hdL (HB9.out.trans (hb10.mono HB9.out.size))
         have HE10 := hdL ((hb10.block _ (loh HE9.out)).trans HE9.out)
         have HS10 := hdL hx10
         clear hb10 hx10 z1 z2
         try simp only [sqG]
         try go_simp
         try rw [hgS]
         try rw [hv10]
         refine hK.out _ _ (owe2 (fun _ => ⟨cOh G010.out 0, cOh G010.out 1⟩) (fun h => by cases h)) ?_
         clear hK K
         try simp only [Act.put, sqZ]
         refine UpV.one 5 (by kernel_rfl) rfl ?_
         intro K hK
         have hemp := owns_emptyR v10 Wd.heap.size 41 4 HGE.out HE10.out
         refine step_append_srcs rfl (.tmp 95) (.tmp 96) 22 22 rfl Wd.heap.size 41 iP _ 4 40 Tryz.underlying22 HI2.out.1 HI2.out.2.1 HI2.out.2.2.1 HI2.out.2.2.2 rfl (by decide) (.slice (some ⟨gE, 0, none⟩) 0 0) (by first | rfl | (simp [Act.eval]; done) | (simp [Act.eval, Act.put]; done)) 0 [] hemp (.slice ac nc cc) (by first | rfl | (simp [Act.eval]; done) | (simp [Act.eval, Act.put]; done)) nc (ch.flatMap pkL) (HCS.out _ HB7W.out _ HB10.out) (by unfold maxLen; omega) (by omega) HB10.out.size ?_
         intro a11 c11 v11 hown hgrow _ hblk
         simp only [Nat.zero_add, List.nil_append] at hown hblk ⊢
         have hbn := below_grownR HB10.out (v := .slice (some ⟨gE, 0, none⟩) 0 0) hgrow (fun g hg => (by simpa [Value.ownBlock] using hg : gE = g) ▸ HGE.out)
         have HB11 := hdL hbn; have G011 := hdL ((hbn.block _ (loh G0D.out)).trans G0D.out); have G111 := hdL ((hbn.block _ (loh G1D.out)).trans G1D.out)
         have HS11 := hdL ((hgrow.block _ (loh HS10.out) (fun e => by have h0 := HS10.out; rw [show gS = gE from by simpa [Value.ownBlock] using e, HE10.out] at h0; simp at h0)).trans HS10.out)
         have HR11 := hdL hown
         clear hown hgrow hblk hemp hbn
         refine hK.out _ _ (owe2 (fun _ => ⟨cOh G011.out 0, cOh G011.out 1⟩) (fun h => by cases h)) ?_
         clear hK K
         try simp only [Act.put, sqZ]
         refine UpV.one 8 (by kernel_rfl) rfl ?_
         intro K hK
         have hsn := src_pk (q := q) HSQ.out.1 (by rw [← HSQ.out.2.1, ← HSQ.out.2.2.1, ← HSQ.out.2.2.2]; exact HS11.out)
         refine step_append_srcs rfl (.tmp 97) (.tmp 99) 22 22 rfl Wd.heap.size 41 iP _ 4 40 Tryz.underlying22 HI2.out.1 HI2.out.2.1 HI2.out.2.2.1 HI2.out.2.2.2 rfl (by decide) (.slice a11 nc c11) (by first | rfl | (simp [Act.eval]; done) | (simp [Act.eval, Act.put]; done)) nc (ch.flatMap pkL) HR11.out (.slice (some ⟨gS, 0, none⟩) 1 1) (by first | rfl | (simp [Act.eval]; done) | (simp [Act.eval, Act.put]; done)) 1 (pkL q) hsn (by unfold maxLen; omega) (by omega) HB11.out.size ?_
         intro aB cB v12 hown hgrow _ hblk
         have hrb := row_base HR11.out
         have hbn := below_grownR HB11.out hgrow (fun g hg => (hrb g hg).1)
         have HB12 := hdL hbn; have G012 := hdL ((hbn.block _ (loh G0D.out)).trans G0D.out)
         have HR12 := hdL hown
         clear hown hgrow hblk hrb hsn hbn
         refine hK.out _ _ (owe2 (fun _ => ⟨cOh G012.out 0, cOh G012.out 1⟩) (fun h => by cases h)) ?_
         clear hK K
         try simp only [Act.put, sqZ]
         have hb6n := HB7.out.trans (HB12.out.mono HB7.out.size)
         have HB6n := hdL hb6n; have s0 := cOh G012.out 0; have s1 := cOh G012.out 1
         have hch2 : PkgsAt zAll v12 (.slice aB (nc + 1) cB) (ch ++ [q]) := by
          have h1 : PkRow Wd.heap.size v12 (.slice aB (nc + 1) cB) (ch ++ [q]) := PkRow.push HN.out.1 HR12.out
          have h2 := h1.at (by rw [lAp, ← HN.out.1]; simp; omega)
          exact h2.keep ⟨fun _ _ _ => trivial, Nat.le_refl _, fun _ _ _ h => h⟩
         have hih := HIH2.out v12 hb6n (.slice aA (nr + m3) cA) (.slice aB (nc + 1) cB) (HDA6.out.below hb6n) hch2
         have HIH3 := hdL hih
         clear hih hch2 hb6n
         refine UpV.one 11 (by kernel_rfl) rfl ?_
         intro K hK
         try simp only [sqG]
         try go_simp
         go_at_call 55
         refine HIH3.out.mono ?_
         intro e w7 hmp
         obtain ⟨a9, k9, c9, m9, e9, rfl⟩ := hmp.form
         have HMP := hdL (hmp.back HB6n.out)
         clear hmp s0 s1
         try go_simp
         refine hK.out _ _ (owe2 (fun h => by cases h) (fun h => by cases h)) ?_
         clear hK K
         try simp only [Act.put, sqZ]
         refine UpV.tp 12 (v := .tuple #[.slice a9 k9 c9, .int .i64 m9, .int .i64 e9]) rfl (Or.inl ⟨by rfl, ?_⟩) (owe2 (fun h => by cases h) (fun h => by cases h)) ?_
         ·intro w hSw; first | rfl | (go_simp; done)
         try simp only [Act.put, sqZ]
         refine UpV.tp 13 (v := .slice a9 k9 c9) rfl (Or.inl ⟨by rfl, ?_⟩) (owe2 (fun h => by cases h) (fun h => by cases h)) ?_
         ·intro w hSw; first | rfl | (go_simp; done)
         try simp only [Act.put, sqZ]
         refine UpV.tp 14 (v := .int .i64 m9) rfl (Or.inl ⟨by rfl, ?_⟩) (owe2 (fun h => by cases h) (fun h => by cases h)) ?_
         ·intro w hSw; first | rfl | (go_simp; done)
         try simp only [Act.put, sqZ]
         refine UpV.tp 15 (v := .int .i64 e9) rfl (Or.inl ⟨by rfl, ?_⟩) (owe2 (fun h => by cases h) (fun h => by cases h)) ?_
         ·intro w hSw; first | rfl | (go_simp; done)
         try simp only [Act.put, sqZ]
         refine UpV.tp 16 (v := .slice a9 k9 c9) rfl (Or.inl ⟨by rfl, ?_⟩) (owe2 (fun h => by cases h) (fun h => by cases h)) ?_
         ·intro w hSw; first | rfl | (go_simp; done)
         try simp only [Act.put, sqZ]
         refine UpV.tp 17 (v := .int .i64 m9) rfl (Or.inl ⟨by rfl, ?_⟩) (owe2 (fun h => by cases h) (fun h => by cases h)) ?_
         ·intro w hSw; first | rfl | (go_simp; done)
         try simp only [Act.put, sqZ]
         refine UpV.tp 18 (v := .int .i64 e9) rfl (Or.inl ⟨by rfl, ?_⟩) (owe2 (fun h => by cases h) (fun h => by cases h)) ?_
         ·intro w hSw; first | rfl | (go_simp; done)
         try simp only [Act.put, sqZ]
         refine UpV.done (by kernel_rfl) ?_
         go_wp2_with fail
         go_meet
         exact ⟨a9, k9, c9, m9, e9, rfl, rfl, rfl, HMP⟩
       ·intro K hK
        obtain ⟨v9, hv9, hb9, hx9, z1, z2⟩ := aBk Wd #[.string S, .int .i64 q1, .int .i64 q2, .int .i64 q3] 41
        obtain ⟨gS, hgS⟩ : ∃ b, Wd.heap.size = b := ⟨_, rfl⟩
        rw [hgS] at hx9
        have G09 := hdL ((hb9.block _ (loh G08.out)).trans G08.out); have G19 := hdL ((hb9.block _ (loh G18.out)).trans G18.out); have HB9 := hdL (HB8.out.trans (hb9.mono HB8.out.size))
        have HS9 := hdL hx9
        clear hb9 hx9 z1 z2
        try simp only [sqG]
        try go_simp
        try rw [hgS]
        try rw [hv9]
        refine hK.out _ _ (owe2 (fun _ => ⟨cOh G09.out 0, cOh G09.out 1⟩) (fun h => by cases h)) ?_
        clear hK K
        try simp only [Act.put, sqZ]
        refine UpV.one 3 (by kernel_rfl) rfl ?_
        intro K hK
        obtain ⟨v10, hv10, hb10, hx10, z1, z2⟩ := aBk v9 #[] 41
        obtain ⟨gE, hgE⟩ : ∃ b, v9.heap.size = b := ⟨_, rfl⟩
        rw [hgE] at hx10
        have G010 := hdL ((hb10.block _ (loh G09.out)).trans G09.out); have G110 := hdL ((hb10.block _ (loh G19.out)).trans G19.out); have HB10 := hdL (HB9.out.trans (hb10.mono HB9.out.size))
        have HS10 := hdL ((hb10.block _ (loh HS9.out)).trans HS9.out)
        have HE10 := hdL hx10; have HGE := hdL (show Wd.heap.size ≤ gE from by rw [← hgE]; exact HB9.out.size)
        clear hb10 hx10 z1 z2
        try simp only [sqG]
        try go_simp
        try rw [hgE]
        try rw [hv10]
        refine hK.out _ _ (owe2 (fun _ => ⟨cOh G010.out 0, cOh G010.out 1⟩) (fun h => by cases h)) ?_
        clear hK K
        try simp only [Act.put, sqZ]
        refine UpV.one 5 (by kernel_rfl) rfl ?_
        intro K hK
        have hemp := owns_emptyR v10 Wd.heap.size 41 4 HGE.out HE10.out
        refine step_append_srcs rfl (.tmp 95) (.tmp 96) 22 22 rfl Wd.heap.size 41 iP _ 4 40 Tryz.underlying22 HI2.out.1 HI2.out.2.1 HI2.out.2.2.1 HI2.out.2.2.2 rfl (by decide) (.slice (some ⟨gE, 0, none⟩) 0 0) (by first | rfl | (simp [Act.eval]; done) | (simp [Act.eval, Act.put]; done)) 0 [] hemp (.slice ac nc cc) (by first | rfl | (simp [Act.eval]; done) | (simp [Act.eval, Act.put]; done)) nc (ch.flatMap pkL) (HCS.out _ HB7W.out _ HB10.out) (by unfold maxLen; omega) (by omega) HB10.out.size ?_
        intro a11 c11 v11 hown hgrow _ hblk
        simp only [Nat.zero_add, List.nil_append] at hown hblk ⊢
        have hbn := below_grownR HB10.out (v := .slice (some ⟨gE, 0, none⟩) 0 0) hgrow (fun g hg => (by simpa [Value.ownBlock] using hg : gE = g) ▸ HGE.out)
        have HB11 := hdL hbn; have G011 := hdL ((hbn.block _ (loh G0D.out)).trans G0D.out); have G111 := hdL ((hbn.block _ (loh G1D.out)).trans G1D.out)
        have HS11 := hdL ((hgrow.block _ (loh HS10.out) (fun e => by have h0 := HS10.out; rw [show gS = gE from by simpa [Value.ownBlock] using e, HE10.out] at h0; simp at h0)).trans HS10.out)
        have HR11 := hdL hown
        clear hown hgrow hblk hemp hbn
        refine hK.out _ _ (owe2 (fun _ => ⟨cOh G011.out 0, cOh G011.out 1⟩) (fun h => by cases h)) ?_
        clear hK K
        try simp only [Act.put, sqZ]
        refine UpV.one 8 (by kernel_rfl) rfl ?_
        intro K hK
        have hsn := src_pk (q := q) HSQ.out.1 (by rw [← HSQ.out.2.1, ← HSQ.out.2.2.1, ← HSQ.out.2.2.2]; exact HS11.out)
        refine step_append_srcs rfl (.tmp 97) (.tmp 99) 22 22 rfl Wd.heap.size 41 iP _ 4 40 Tryz.underlying22 HI2.out.1 HI2.out.2.1 HI2.out.2.2.1 HI2.out.2.2.2 rfl (by decide) (.slice a11 nc c11) (by first | rfl | (simp [Act.eval]; done) | (simp [Act.eval, Act.put]; done)) nc (ch.flatMap pkL) HR11.out (.slice (some ⟨gS, 0, none⟩) 1 1) (by first | rfl | (simp [Act.eval]; done) | (simp [Act.eval, Act.put]; done)) 1 (pkL q) hsn (by unfold maxLen; omega) (by omega) HB11.out.size ?_
        intro aB cB v12 hown hgrow _ hblk
        have hrb := row_base HR11.out
        have hbn := below_grownR HB11.out hgrow (fun g hg => (hrb g hg).1)
        have HB12 := hdL hbn; have G012 := hdL ((hbn.block _ (loh G0D.out)).trans G0D.out)
        have HR12 := hdL hown
        clear hown hgrow hblk hrb hsn hbn
        refine hK.out _ _ (owe2 (fun _ => ⟨cOh G012.out 0, cOh G012.out 1⟩) (fun h => by cases h)) ?_
        clear hK K
        try simp only [Act.put, sqZ]
        have hb6n := HB7.out.trans (HB12.out.mono HB7.out.size)
        have HB6n := hdL hb6n; have s0 := cOh G012.out 0; have s1 := cOh G012.out 1
        have hch2 : PkgsAt zAll v12 (.slice aB (nc + 1) cB) (ch ++ [q]) := by
         have h1 : PkRow Wd.heap.size v12 (.slice aB (nc + 1) cB) (ch ++ [q]) := PkRow.push HN.out.1 HR12.out
         have h2 := h1.at (by rw [lAp, ← HN.out.1]; simp; omega)
         exact h2.keep ⟨fun _ _ _ => trivial, Nat.le_refl _, fun _ _ _ h => h⟩
        have hih := HIH2.out v12 hb6n (.slice aA (nr + m3) cA) (.slice aB (nc + 1) cB) (HDA6.out.below hb6n) hch2
        have HIH3 := hdL hih
        clear hih hch2 hb6n
        refine UpV.one 11 (by kernel_rfl) rfl ?_
        intro K hK
        try simp only [sqG]
        try go_simp
        go_at_call 55
        refine HIH3.out.mono ?_
        intro e w7 hmp
        obtain ⟨a9, k9, c9, m9, e9, rfl⟩ := hmp.form
        have HMP := hdL (hmp.back HB6n.out)
        clear hmp s0 s1
        try go_simp
        refine hK.out _ _ (owe2 (fun h => by cases h) (fun h => by cases h)) ?_
        clear hK K
        try simp only [Act.put, sqZ]
        refine UpV.tp 12 (v := .tuple #[.slice a9 k9 c9, .int .i64 m9, .int .i64 e9]) rfl (Or.inl ⟨by rfl, ?_⟩) (owe2 (fun h => by cases h) (fun h => by cases h)) ?_
        ·intro w hSw; first | rfl | (go_simp; done)
        try simp only [Act.put, sqZ]
        refine UpV.tp 13 (v := .slice a9 k9 c9) rfl (Or.inl ⟨by rfl, ?_⟩) (owe2 (fun h => by cases h) (fun h => by cases h)) ?_
        ·intro w hSw; first | rfl | (go_simp; done)
        try simp only [Act.put, sqZ]
        refine UpV.tp 14 (v := .int .i64 m9) rfl (Or.inl ⟨by rfl, ?_⟩) (owe2 (fun h => by cases h) (fun h => by cases h)) ?_
        ·intro w hSw; first | rfl | (go_simp; done)
        try simp only [Act.put, sqZ]
        refine UpV.tp 15 (v := .int .i64 e9) rfl (Or.inl ⟨by rfl, ?_⟩) (owe2 (fun h => by cases h) (fun h => by cases h)) ?_
        ·intro w hSw; first | rfl | (go_simp; done)
        try simp only [Act.put, sqZ]
        refine UpV.tp 16 (v := .slice a9 k9 c9) rfl (Or.inl ⟨by rfl, ?_⟩) (owe2 (fun h => by cases h) (fun h => by cases h)) ?_
        ·intro w hSw; first | rfl | (go_simp; done)
        try simp only [Act.put, sqZ]
        refine UpV.tp 17 (v := .int .i64 m9) rfl (Or.inl ⟨by rfl, ?_⟩) (owe2 (fun h => by cases h) (fun h => by cases h)) ?_
        ·intro w hSw; first | rfl | (go_simp; done)
        try simp only [Act.put, sqZ]
        refine UpV.tp 18 (v := .int .i64 e9) rfl (Or.inl ⟨by rfl, ?_⟩) (owe2 (fun h => by cases h) (fun h => by cases h)) ?_
        ·intro w hSw; first | rfl | (go_simp; done)
        try simp only [Act.put, sqZ]
        refine UpV.done (by kernel_rfl) ?_
        go_wp2_with fail
        go_meet
        exact ⟨a9, k9, c9, m9, e9, rfl, rfl, rfl, HMP⟩
      obtain ⟨a7, k7, c7, m7, e7, rfl, rfl, rfl, HMP⟩ := hcut
      have hmp := HMP.out
      have HBX := hdL hmp.1; have HBLX := hdL (HBL6.out.trans (hmp.1.mono HBL6.out.size))
      obtain ⟨-, hmr⟩ := hmp
      rcases x2 with cx | _ | _
      ·obtain ⟨vc2, hvc, hpc⟩ := hmr
       injection hvc with hvc
       injection hvc with hvc
       have hvc2 := congrArg Array.toList hvc
       simp only [List.cons.injEq, and_true] at hvc2
       obtain ⟨hv1, hv2, hv3⟩ := hvc2
       injection hv2 with _ hv2
       injection hv3 with _ hv3
       subst hv1
       subst hv3
       have hres := sIj HT2.out
       have HRS := hdL hres; have HV2 := hdL hv2; have HPC := hdL hpc
       clear hres hv2 hpc hvc
       go_wp2_with fail
       go_ret3
       rw [← HRS.out]
       refine ⟨HB.out.trans ((HB6.out.trans (HBX.out.mono HB6.out.size)).mono HB.out.size), _, ?_, HPC.out⟩
       rw [HV2.out]
       rfl
      ·injection hmr with hmr
       injection hmr with hmr
       have hvc2 := congrArg Array.toList hmr
       simp only [List.cons.injEq, and_true] at hvc2
       obtain ⟨hv1, hv2, hv3⟩ := hvc2
       injection hv2 with _ hv2
       injection hv3 with _ hv3
       injection hv1 with hv1 hv4 hv5
       subst hv3
       have HV2 := hdL hv2
       clear hmr hv1 hv4 hv5 hv2
       have hmm : 0 ≤ m7 := by have := HV2.out; have := hbb.out.2; (try dsimp only at this); omega
       go_wp2_with fail
       go_roundw
       case rel => exact ⟨k + 1, b2, m7, rfl, by go_num, hlt, hdL ⟨by have := hbb.out.1; omega, by have := HV2.out; (try dsimp only at this); omega⟩, hmm, hdL HT2.out, hdL (HBLX.out)⟩
       case measure => simp [intOf]; omega
      ·injection hmr with hmr
       injection hmr with hmr
       have hvc2 := congrArg Array.toList hmr
       simp only [List.cons.injEq, and_true] at hvc2
       obtain ⟨hv1, hv2, hv3⟩ := hvc2
       injection hv2 with _ hv2
       injection hv3 with _ hv3
       injection hv1 with hv1 hv4 hv5
       subst hv3
       subst hv1
       subst hv4
       subst hv5
       have hres := sIj HT2.out
       have HRS := hdL hres; have HV2 := hdL hv2
       clear hres hv2 hmr
       go_wp2_with fail
       go_ret3
       rw [← HRS.out]
       refine ⟨HB.out.trans ((HB6.out.trans (HBX.out.mono HB6.out.size)).mono HB.out.size), ?_⟩
       show Ending.returned _ = Ending.returned _
       rw [HV2.out]
       rfl
    ·obtain rfl : k = nf := by omega
     have htr2 := htr.out
     rw [List.drop_of_length_le (by rw [← HNF.out]; exact Nat.le_refl _)] at htr2
     have hres : (Res.clash, b') = res := by
      cases b' <;> (unfold tryF at htr2; exact sIj htr2)
     have HRS := hdL hres
     clear htr2 hres
     go_wp2_with fail
     go_ret3
     rw [← HRS.out]
     refine ⟨HB.out.trans (HBW.out.mono HB.out.size), ?_⟩
     show Ending.returned (.tuple #[.slice none 0 0, .int .i64 made', .int .i64 12]) = Ending.returned (.tuple #[.slice none 0 0, .int .i64 (left - (b' : Int)), .int .i64 12])
     rw [show (left - (b' : Int)) = made' from by have := hbb.out.2; omega]
theorem rmeet_any (st : St) (hs : st.seeds.length ≤ 1000) (hr : st.recs.length ≤ 1000) (hg : ∀ r ∈ st.recs, goodRc r = true) (pool : List Pk) (v vp : Value) (left : Int) (n : Nat) : MeetAt st pool v vp left n := by
 induction n with
 | zero => intro w vw ws vc ch b made res _ _ _ _ _ _ _ _ _ h; cases h
 | succ n ih =>
  intro w vw ws vc ch b made res h1 h2 h3 h4 hm hm0 hlf hw8 hc8 h
  cases ws with
  | nil => exact rmeet_nil st hs hr hg pool v vp left n w vw vc ch b made res h1 h2 h3 h4 hm hm0 hlf hw8 hc8 h
  | cons d ws => exact rmeet_step st hs hr hg pool v vp left n ih w vw d ws vc ch b made res h1 h2 h3 h4 hm hm0 hlf hw8 hc8 h
end Go.Proofs.YtaagkndhgicifaaGreat
