/- DERIVED. plan.Make, walked. (Printed by plnmakegen.py.) -/
import Derived.Test.YtaagkndhgicifaaGreatPlnNeed
import Derived.Test.YtaagkndhgicifaaGreatStgBeg0
namespace Go.Proofs.YtaagkndhgicifaaGreat
set_option maxHeartbeats 32000000
open Go.RowKit Go.Shelf
set_option linter.unusedVariables false
set_option linter.unusedSimpArgs false
set_option maxRecDepth 100000
theorem kt_ch {T t : TypeId} {w W : World} {B : Nat} {ys : Array Value} {f : Nat × Nat} (hc : Ch [B] w W) (h : w.heap[B]? = some (.cells ys t f)) (hne : T ≠ t) : KT T w W := fun b c f' hb =>
 (hc.block b (loh hb) (fun hm => by
  have hm := mSg.1 hm
  subst hm
  rw [h] at hb
  exact hne ((Obj.cells.inj (sIj hb)).2.1).symm)).trans hb
theorem OwnE.kt {base : Nat} {w w' : World} {a : Option Addr} {n c : Nat} {os : List EV} (h : OwnE base w a n c os) (k1 : KT 45 w w') (k2 : KT 41 w w') : OwnE base w' a n c os :=
 ⟨h.1, k1.owns h.2.1, fun x hx => k2.owns (h.2.2.1 x hx), h.2.2.2⟩
theorem OwnE.mono {base base' : Nat} {w : World} {a : Option Addr} {n c : Nat} {os : List EV} (h : OwnE base w a n c os) (hb : base' ≤ base) : OwnE base' w a n c os :=
 ⟨h.1, ownsC_mono h.2.1 hb, fun x hx => ownsC_mono (h.2.2.1 x hx) hb, h.2.2.2⟩
theorem OwnE.nil (base : Nat) (w : World) : OwnE base w none 0 0 [] := ⟨rfl, ownsC_nil _ _ _ _, (fun x hx => (by cases hx)), (fun x hx => (by cases hx))⟩
def PlanP (r : List Ent × List Pk × Int) (w : World) (e : Ending) (w' : World) : Prop := Below w.heap.size w w' ∧ ∃ (a : Option Addr) (n c : Nat) (os : List EV) (al : Option Addr) (nl cl : Nat),
 e = .returned (.tuple #[.agg #[.slice a n c, .slice al nl cl], .int .i64 r.2.2]) ∧ OwnE w.heap.size w' a n c os ∧ os.map Prod.fst = r.1 ∧ nl = r.2.1.length ∧ PRow w.heap.size w' (.slice al nl cl, r.2.1)
theorem planP_no {w w' : World} {e0 : Int} (h : Below w.heap.size w w') : PlanP ([], [], e0) w (.returned (.tuple #[.agg #[.slice none 0 0, .slice none 0 0], .int .i64 e0])) w' :=
 ⟨h, none, 0, 0, [], none, 0, 0, rfl, OwnE.nil _ _, rfl, rfl, PRow.nil _ _⟩
theorem fix_few {st : St} {left m : Int} {L : List Ent} {l : List Pk} (h : fixT st left = some (L, l, m)) (hs : st.seeds.length ≤ 8 ∧ st.recs.length ≤ 32) : L.length + l.length ≤ 40 := by
 have h1 := (fixT_res h).len
 have h2 := all_len st
 omega
theorem plan_few {st : St} (hs : st.seeds.length ≤ 8 ∧ st.recs.length ≤ 32) (q : Pk) (left : Int) : (planT st q left).1.length ≤ 40 ∧ (planT st q left).2.1.length ≤ 40 := by
 rcases planT_cases st q left with ⟨-, h⟩ | ⟨-, -, h⟩ | ⟨L, l, m, -, hf, -, h⟩ | ⟨L, l, m, -, hf, -, h⟩
 ·rw [h]; exact ⟨Nat.zero_le _, Nat.zero_le _⟩
 ·rw [h]; exact ⟨Nat.zero_le _, Nat.zero_le _⟩
 ·rw [h]
  have := fix_few hf hs
  exact ⟨Nat.zero_le _, by show l.length ≤ 40; omega⟩
 ·rw [h]
  have h1 := fix_few hf hs
  have h2 := (needT_sub L q).length_le
  exact ⟨by show (needT L q).length ≤ 40; omega, Nat.zero_le _⟩
theorem pmake_any (w : World) (B : Nat) (F : List Nat) (st : St) (h : StkAt w B F st) (left : Int) (hl : left ≤ 2000) (p : Pk) :
  Calls Tryz.prog 38 #[.pointer (some ⟨B, 0, none⟩), .agg #[strV p.1, .int .i64 p.2.1, .int .i64 p.2.2.1, .int .i64 p.2.2.2], .int .i64 left] w (PlanP (planT st p left) w) := by
 have hhas := fun W (hW : Below w.heap.size w W) => stkhas_any W B F st (h.below hW) p
 have hfix := fun W (hW : Below w.heap.size w W) => fix_any W B F st (h.below hW) left hl
 have hfew := h.few8
 obtain ⟨P, -, hP, -, -⟩ := strV_is p.1
 obtain ⟨v1, hv1⟩ : ∃ z, z = p.2.1 := ⟨_, rfl⟩
 obtain ⟨v2, hv2⟩ : ∃ z, z = p.2.2.1 := ⟨_, rfl⟩
 obtain ⟨v3, hv3⟩ : ∃ z, z = p.2.2.2 := ⟨_, rfl⟩
 rw [hP, ← hv1, ← hv2, ← hv3]
 simp only [hP, ← hv1, ← hv2, ← hv3] at hhas
 obtain ⟨w1, hw1, hb1, hx1, y1, y2⟩ := aBk w #[.string P, .int .i64 v1, .int .i64 v2, .int .i64 v3] 41
 obtain ⟨w2, hw2, hb2, hx2, y3, y4⟩ := aBk w1 #[.slice none 0 0, .slice none 0 0] 81
 obtain ⟨b1, hb1e⟩ : ∃ b, w.heap.size = b := ⟨_, rfl⟩
 obtain ⟨b2, hb2e⟩ : ∃ b, w1.heap.size = b := ⟨_, rfl⟩
 have hb12 := hb1.trans (hb2.mono hb1.size)
 have g1 := (hb2.block _ (by omega)).trans hx1
 rw [hb1e] at g1; rw [hb2e] at hx2
 have HHAS := hdL (hhas w2 hb12); have HFIX := hdL hfix; have HFEW := hdL hfew; have HB2 := hdL hb12; have G12 := hdL g1; have G22 := hdL hx2; have HPS := hdL (And.intro hP (And.intro hv1 (And.intro hv2 hv3))); have HSZ := hdL (show w.heap.size ≤ b2 from by have := hb1.size; omega)
 clear h hhas hfix hfew hb1 hb2 hb12 g1 hx1 hx2 hP hv1 hv2 hv3 y1 y2 y3 y4
 obtain ⟨e0, e1, e2, e3⟩ := cells4 G12.out
 go_enter Tryz.func38, Tryz.ntmps38
 go_wp2_with fail
 refine HHAS.out.mono ?_
 rintro e w3 ⟨rfl, h3⟩
 have G13 := hdL ((h3.block _ (loh G12.out)).trans G12.out); have G23 := hdL ((h3.block _ (loh G22.out)).trans G22.out)
 have HB3 := hdL (HB2.out.trans (h3.mono HB2.out.size)); clear h3 e0 e1 e2 e3
 cases hh : st.has p
 ·have HPL := hdL (planT_none (left := left) hh); clear hh
  obtain ⟨V, hV, hVx, hVc⟩ := two_setR (w := w3) G23.out (.slice none 0 0) (.slice none 0 0)
  obtain ⟨m0, m1⟩ := cells2 G23.out
  have mf := foh G23.out
  have HVX := hdL hVx; have HVC := hdL hVc; clear hVx hVc
  go_wp2_with fail
  try rw [hV]
  obtain ⟨r0, r1⟩ := cells2 HVX.out
  refine bodyPost_ret (v := .tuple #[.agg #[.slice none 0 0, .slice none 0 0], .int .i64 14]) (by simp [results, Tryz.results38, go_sem, r0, r1]) rfl ?_
  rw [HPL.out]
  exact planP_no ((HB3.out).trans (boC HVC.out (fun k hk => by rw [mSg.1 hk]; exact HSZ.out) (HB3.out).size))
 ·have HH := hdL hh; clear hh
  go_wp2_with fail
  refine (HFIX.out w3 HB3.out).mono ?_
  intro e w4 hfp
  obtain ⟨h4, po, e0, rfl, hq⟩ := hfp.q
  have G14 := hdL ((h4.block _ (loh G13.out)).trans G13.out); have G24 := hdL ((h4.block _ (loh G23.out)).trans G23.out)
  have HB4 := hdL (HB3.out.trans (h4.mono HB3.out.size)); clear h4 hfp
  rcases hq with ⟨rfl, rfl, hft⟩ | ⟨Tb, es, l, m, rfl, rfl, hft, hsg⟩
  ·have HPL := hdL (planT_out HH.out hft); clear hft
   obtain ⟨V, hV, hVx, hVc⟩ := two_setR (w := w4) G24.out (.slice none 0 0) (.slice none 0 0)
   obtain ⟨m0, m1⟩ := cells2 G24.out
   have mf := foh G24.out
   have HVX := hdL hVx; have HVC := hdL hVc; clear hVx hVc
   go_wp2_with fail
   try rw [hV]
   obtain ⟨r0, r1⟩ := cells2 HVX.out
   refine bodyPost_ret (v := .tuple #[.agg #[.slice none 0 0, .slice none 0 0], .int .i64 60]) (by simp [results, Tryz.results38, go_sem, r0, r1]) rfl ?_
   rw [HPL.out]
   exact planP_no ((HB4.out).trans (boC HVC.out (fun k hk => by rw [mSg.1 hk]; exact HSZ.out) (HB4.out).size))
  ·have hfw := fix_few hft HFEW.out
   rw [List.length_map] at hfw
   have hnd := needs_any w4 _ Tb es l m hsg (fixT_good hft) (by omega) p
   rw [HPS.out.1, ← HPS.out.2.1, ← HPS.out.2.2.1, ← HPS.out.2.2.2] at hnd
   have HND := hdL hnd; have HFT := hdL hft; have HSG := hdL hsg
   clear hnd hft hsg
   obtain ⟨e0, e1, e2, e3⟩ := cells4 G14.out
   go_wp2_with fail
   refine HND.out.mono ?_
   intro e w5 hnp
   obtain ⟨h5, ⟨hpm, rfl⟩ | ⟨hpm, a, n, c, os, rfl, hos, hmap⟩⟩ := hnp
   ·have HPL := hdL (planT_less HH.out HFT.out hpm); have HLS := hdL (sless_any w5 _ Tb es l m (HSG.out.below h5)); have HB5 := hdL (HB4.out.trans (h5.mono HB4.out.size))
    have G15 := hdL ((h5.block _ (loh G14.out)).trans G14.out); have G25 := hdL ((h5.block _ (loh G24.out)).trans G24.out)
    clear h5 hpm e0 e1 e2 e3
    go_wp2_with fail
    refine HLS.out.mono ?_
    rintro e w6 ⟨al, cl, rfl, hrow, h6⟩
    have G16 := hdL ((h6.block _ (loh G15.out)).trans G15.out); have G26 := hdL ((h6.block _ (loh G25.out)).trans G25.out)
    obtain ⟨nl, hnl⟩ : ∃ n, n = l.length := ⟨_, rfl⟩
    rw [← hnl] at hrow ⊢
    have HNL := hdL hnl; have HROW := hdL hrow; have HB6 := hdL (HB5.out.trans (h6.mono HB5.out.size)); clear hrow h6 hnl
    obtain ⟨V, hV, hVx, hVc⟩ := two_setR (w := w6) G26.out (.slice none 0 0) (.slice al nl cl)
    obtain ⟨m0, m1⟩ := cells2 G26.out
    have mf := foh G26.out
    have HVX := hdL hVx; have HVC := hdL hVc; clear hVx hVc
    go_wp2_with fail
    try rw [hV]
    obtain ⟨r0, r1⟩ := cells2 HVX.out
    refine bodyPost_ret (v := .tuple #[.agg #[.slice none 0 0, .slice al nl cl], .int .i64 61]) (by simp [results, Tryz.results38, go_sem, r0, r1]) rfl ?_
    rw [HPL.out]
    refine ⟨((HB6.out).trans (boC HVC.out (fun k hk => by rw [mSg.1 hk]; exact HSZ.out) (HB6.out).size)), none, 0, 0, [], al, nl, cl, rfl, OwnE.nil _ _, rfl, HNL.out, ?_⟩
    exact (kt_ch HVC.out G26.out (by decide)).owns (ownsC_mono HROW.out HB5.out.size)
   ·have HPL := hdL (planT_need HH.out HFT.out hpm); have HOS := hdL hos; have HMP := hdL hmap; have HB5 := hdL (HB4.out.trans (h5.mono HB4.out.size))
    have G15 := hdL ((h5.block _ (loh G14.out)).trans G14.out); have G25 := hdL ((h5.block _ (loh G24.out)).trans G24.out)
    clear h5 hpm hos hmap e0 e1 e2 e3
    obtain ⟨V, hV, hVx, hVc⟩ := two_setR (w := w5) G25.out (.slice a n c) (.slice none 0 0)
    obtain ⟨m0, m1⟩ := cells2 G25.out
    have mf := foh G25.out
    have HVX := hdL hVx; have HVC := hdL hVc; clear hVx hVc
    go_wp2_with fail
    try rw [hV]
    obtain ⟨r0, r1⟩ := cells2 HVX.out
    refine bodyPost_ret (v := .tuple #[.agg #[.slice a n c, .slice none 0 0], .int .i64 0]) (by simp [results, Tryz.results38, go_sem, r0, r1]) rfl ?_
    rw [HPL.out]
    refine ⟨((HB5.out).trans (boC HVC.out (fun k hk => by rw [mSg.1 hk]; exact HSZ.out) (HB5.out).size)), a, n, c, os, none, 0, 0, rfl, ?_, HMP.out, rfl, PRow.nil _ _⟩
    exact (HOS.out.mono HB4.out.size).kt (kt_ch HVC.out G25.out (by decide)) (kt_ch HVC.out G25.out (by decide))
theorem pmake_nil (w : World) (p : Pk) (left : Int) : Calls Tryz.prog 38 #[.pointer none, .agg #[strV p.1, .int .i64 p.2.1, .int .i64 p.2.2.1, .int .i64 p.2.2.2], .int .i64 left] w (fun e w' => e = .returned (.tuple #[.agg #[.slice none 0 0, .slice none 0 0], .int .i64 2]) ∧ Below w.heap.size w w') := by
 obtain ⟨P, -, hP, -, -⟩ := strV_is p.1
 obtain ⟨v1, hv1⟩ : ∃ z, z = p.2.1 := ⟨_, rfl⟩
 obtain ⟨v2, hv2⟩ : ∃ z, z = p.2.2.1 := ⟨_, rfl⟩
 obtain ⟨v3, hv3⟩ : ∃ z, z = p.2.2.2 := ⟨_, rfl⟩
 rw [hP, ← hv1, ← hv2, ← hv3]
 obtain ⟨w1, hw1, hb1, hx1, y1, y2⟩ := aBk w #[.string P, .int .i64 v1, .int .i64 v2, .int .i64 v3] 41
 obtain ⟨w2, hw2, hb2, hx2, y3, y4⟩ := aBk w1 #[.slice none 0 0, .slice none 0 0] 81
 obtain ⟨b1, hb1e⟩ : ∃ b, w.heap.size = b := ⟨_, rfl⟩
 obtain ⟨b2, hb2e⟩ : ∃ b, w1.heap.size = b := ⟨_, rfl⟩
 have hb12 := hb1.trans (hb2.mono hb1.size)
 rw [hb2e] at hx2
 have HB2 := hdL hb12; have G22 := hdL hx2; have HSZ := hdL (show w.heap.size ≤ b2 from by have := hb1.size; omega)
 clear hb1 hb2 hb12 hx1 hx2 hP hv1 hv2 hv3 y1 y2 y3 y4
 go_enter Tryz.func38, Tryz.ntmps38
 obtain ⟨V, hV, hVx, hVc⟩ := two_setR (w := w2) G22.out (.slice none 0 0) (.slice none 0 0)
 obtain ⟨m0, m1⟩ := cells2 G22.out
 have mf := foh G22.out
 have HVX := hdL hVx; have HVC := hdL hVc; clear hVx hVc
 go_wp2_with fail
 try rw [hV]
 obtain ⟨r0, r1⟩ := cells2 HVX.out
 refine bodyPost_ret (v := .tuple #[.agg #[.slice none 0 0, .slice none 0 0], .int .i64 2]) (by simp [results, Tryz.results38, go_sem, r0, r1]) rfl ?_
 exact ⟨rfl, ((HB2.out).trans (boC HVC.out (fun k hk => by rw [mSg.1 hk]; exact HSZ.out) (HB2.out).size))⟩
theorem needs_nil (w : World) (p : Pk) : Calls Tryz.prog 40 #[.pointer none, .agg #[strV p.1, .int .i64 p.2.1, .int .i64 p.2.2.1, .int .i64 p.2.2.2]] w (fun e w' => e = .returned (.tuple #[.slice none 0 0, .bool false]) ∧ Below w.heap.size w w') := by
 have hget := fun W => sget_nil W p
 obtain ⟨P, -, hP, -, -⟩ := strV_is p.1
 obtain ⟨v1, hv1⟩ : ∃ z, z = p.2.1 := ⟨_, rfl⟩
 obtain ⟨v2, hv2⟩ : ∃ z, z = p.2.2.1 := ⟨_, rfl⟩
 obtain ⟨v3, hv3⟩ : ∃ z, z = p.2.2.2 := ⟨_, rfl⟩
 rw [hP, ← hv1, ← hv2, ← hv3]
 simp only [hP, ← hv1, ← hv2, ← hv3] at hget
 obtain ⟨w1, hw1, hb1, hx1, y1, y2⟩ := aBk w #[.string P, .int .i64 v1, .int .i64 v2, .int .i64 v3] 41
 have HG := hdL (hget w1); have HB1 := hdL hb1; have HX1 := hdL hx1
 clear hget hb1 hx1 hP hv1 hv2 hv3 y1 y2
 obtain ⟨e0, e1, e2, e3⟩ := cells4 HX1.out
 go_enter Tryz.func40, Tryz.ntmps40
 go_wp2_with fail
 refine HG.out.mono ?_
 intro e w2 hgp
 obtain ⟨h2, ag, cg, he, -⟩ := hgp
 have his : (getE [] p).2 = false := rfl
 rw [his] at he
 obtain ⟨S, T, p1, p2, p3, sg, t1, t2, t3, n9, hl⟩ := ent_let (getE [] p).1
 rw [hl.arr] at he
 subst he
 clear hl his
 obtain ⟨w3, hw3, hb3, hx3, z1, z2⟩ := aBk w2 #[.string S, .int .i64 p1, .int .i64 p2, .int .i64 p3, .int .i64 sg, .string T, .int .i64 t1, .int .i64 t2, .int .i64 t3, .slice ag n9 cg] 45
 have HB3 := hdL (HB1.out.trans ((h2.trans (hb3.mono h2.size)).mono HB1.out.size)); clear h2 hb3 hx3 z1 z2 e0 e1 e2 e3
 go_wp2_with fail
 go_ret2
 exact ⟨rfl, HB3.out⟩
end Go.Proofs.YtaagkndhgicifaaGreat
