/- DERIVED. The reference's stages: Pool, Get, Same, walked. (Printed by rstggen.py.) -/
import Derived.Test.YtaagkndhgicifaaGreatRStg
import Derived.Test.YtaagkndhgicifaaGreatRSolve
namespace Go.Proofs.YtaagkndhgicifaaGreat
set_option maxHeartbeats 32000000
open Go.RowKit Go.Shelf
set_option linter.unusedVariables false
set_option linter.unusedSimpArgs false
set_option maxRecDepth 100000
theorem poolE_take {es : List EV} {k : Nat} {x : EV} {s : Int} (h : es[k]? = some x) : poolE ((es.map Prod.fst).take (k + 1)) s = poolE ((es.map Prod.fst).take k) s ++ (if x.1.stage < s then [x.1.pkg] else []) := by
 have h2 : (es.map Prod.fst)[k]? = some x.1 := by rw [List.getElem?_map, h]; rfl
 rw [List.take_add_one, h2]
 unfold poolE
 rw [List.filter_append, List.map_append]
 congr 1
 by_cases hs : x.1.stage < s <;> simp [hs]
theorem poolE_len (L : List Ent) (s : Int) : (poolE L s).length ≤ L.length := by unfold poolE; rw [List.length_map]; exact List.length_filter_le _ _
theorem rpool_any (w : World) (es : List EV) (l : List Pk) (m s : Int) (aL : Option Addr) (cL : Nat) (al : Option Addr) (nl cl : Nat) (h : EntsAt zAll w (.slice aL es.length cL) es) (hle : es.length ≤ 100000) :
  Calls Tryz.prog 66 #[.agg #[.slice aL es.length cL, .slice al nl cl, .int .i64 m], .int .i64 s] w (fun e w' => ∃ a c, e = .returned (.slice a (poolE (es.map Prod.fst) s).length c) ∧ PRow w.heap.size w' (.slice a (poolE (es.map Prod.fst) s).length c, poolE (es.map Prod.fst) s) ∧ Below w.heap.size w w') := by
 obtain ⟨ne, hne⟩ : ∃ n, n = es.length := ⟨_, rfl⟩
 rw [← hne] at h hle ⊢
 obtain ⟨w1, hw1, hb1, hx1, y1, y2⟩ := aBk w #[.slice aL ne cL, .slice al nl cl, .int .i64 m] 70
 obtain ⟨b1, hb1e⟩ : ∃ b, w.heap.size = b := ⟨_, rfl⟩
 rw [hb1e] at hx1
 have k0 := cOh hx1 0
 obtain ⟨iP, hiP, hzP0, hzP1, hzP2⟩ := info_parts infoPkg
 have HE := hdL (h.below hb1); have HB1 := hdL hb1; have HNE := hdL hne; have HI := hdL (And.intro hiP (And.intro hzP0 (And.intro hzP1 hzP2)))
 clear h hb1 hx1 hne y1 y2 hiP hzP0 hzP1 hzP2
 go_enter Tryz.func66, Tryz.ntmps66
 go_wp2_with fail
 go_loopw [5, 11] (fun o i wr => ∃ (k : Nat) (a : Option Addr) (n c : Nat), o = .slice a n c ∧ i = .int .i64 k ∧ k ≤ ne ∧ n ≤ k ∧ Hid (n = (poolE ((es.map Prod.fst).take k) s).length) ∧ Hid (PRow w1.heap.size wr (.slice a n c, poolE ((es.map Prod.fst).take k) s)) ∧ Hid (Below w1.heap.size w1 wr)) (fun _ i _ => ne - (intOf i).toNat)
 case atStart => exact ⟨0, none, 0, 0, rfl, rfl, Nat.zero_le _, Nat.le_refl _, hdL rfl, hdL (PRow.nil _ _), hdL (Below.refl _ _)⟩
 case round =>
  obtain ⟨k, a, n, c, rfl, rfl, hk, hnk, hn, hrow, hbw⟩ := hrel
  by_cases hlt : k < ne
  ·obtain ⟨x, hx⟩ : ∃ x, es[k]? = some x := ⟨_, gEg (by rw [← HNE.out]; exact hlt)⟩
   obtain ⟨b, o, S', T', rfl, hS', hT', -, c0, c1, c2, c3, c4, c5, c6, c7, c8, c9⟩ := (HE.out.below hbw.out).cells hx
   obtain ⟨S, T, p1, p2, p3, sg, t1, t2, t3, n9, hl⟩ := ent_let x.1
   obtain rfl : S' = S := by rw [hl.s] at hS'; injection hS' with hS'; exact hS'.symm
   obtain rfl : T' = T := by rw [hl.t] at hT'; injection hT' with hT'; exact hT'.symm
   rw [← hl.p.1] at c1; rw [← hl.p.2.1] at c2; rw [← hl.p.2.2] at c3; rw [← hl.g] at c4; rw [← hl.c.1] at c6; rw [← hl.c.2.1] at c7; rw [← hl.c.2.2] at c8; rw [← hl.n] at c9
   obtain ⟨ax, hax⟩ : ∃ y, y = x.2.1 := ⟨_, rfl⟩
   obtain ⟨cx, hcx⟩ : ∃ y, y = x.2.2 := ⟨_, rfl⟩
   rw [← hax, ← hcx] at c9
   obtain ⟨w2, hw2, hb2, hx2, y1, y2⟩ := aBk wr #[.string S', .int .i64 p1, .int .i64 p2, .int .i64 p3, .int .i64 sg, .string T', .int .i64 t1, .int .i64 t2, .int .i64 t3, .slice ax n9 cx] 45
   obtain ⟨b2, hb2e⟩ : ∃ b, wr.heap.size = b := ⟨_, rfl⟩
   rw [hb2e] at hx2
   have hpt := poolE_take (s := s) hx
   have hpk : (pkL x.1.pkg).toArray = #[.string S', .int .i64 p1, .int .i64 p2, .int .i64 p3] := by unfold pkL; rw [hl.s, ← hl.p.1, ← hl.p.2.1, ← hl.p.2.2]
   rw [← hl.g] at hpt
   obtain ⟨q0, q1, q2, q3, q4, q5, q6, q7, q8, q9⟩ := cells10 hx2
   have HB2 := hdL hb2; have HPT := hdL hpt; have HPK := hdL hpk; have HROW2 := hdL (ownsC_below hrow.out hb2)
   clear hx hS' hT' hl hax hcx hb2 hx2 hpt hpk y1 y2
   by_cases hs : sg < s
   ·obtain ⟨w3, hw3, hb3, hx3, y1, y2⟩ := aBk w2 #[.string S', .int .i64 p1, .int .i64 p2, .int .i64 p3] 41
    obtain ⟨b3, hb3e⟩ : ∃ b, w2.heap.size = b := ⟨_, rfl⟩
    rw [hb3e] at hx3
    rw [← HPK.out] at hx3
    have hown := ownsC_below HROW2.out hb3
    dsimp only at hown
    rw [← hn.out] at hown
    have hbase : w1.heap.size ≤ w3.heap.size := by have h1 := HB1.out.size; have h2 := hbw.out.size; have h3 := HB2.out.size; have h4 := hb3.size; omega
    have HOW := hdL hown; have HSRC := hdL (src_pkb hx3); have HB3 := hdL hb3; have HBASE := hdL hbase
    clear hown hx3 hb3 y1 y2 hbase
    go_wp2_with (first | (at_builtin; refine wpList_append_c rfl (.tmp 19) (.tmp 22) 22 22 rfl w1.heap.size 41 iP _ 4 40 Tryz.underlying22 HI.out.1 HI.out.2.1 HI.out.2.2.1 HI.out.2.2.2 rfl (.slice a n c) rfl n _ HOW.out (.slice (some ⟨b3, 0, none⟩) 1 1) rfl 1 _ HSRC.out (by unfold maxLen; omega) (by omega) HBASE.out ?_; intro a' c' w4 ho hg hw; have HO := hdL ho; have HG := hdL hg; have HW := hdL hw; clear ho hg hw) | fail)
    go_roundw
    case rel =>
     have hpt := HPT.out
     rw [if_pos hs] at hpt
     refine ⟨k + 1, a', n + 1, c', rfl, by go_num, hlt, by omega, hdL ?_, hdL ?_, hdL ?_⟩
     ·rw [hpt, lAp, lSg, ← hn.out]
     ·unfold PRow
      dsimp only
      rw [hpt, lAp, lSg, ← hn.out, List.flatMap_append, List.flatMap_singleton]
      exact HO.out
     ·have h1 := (hbw.out.trans (HB2.out.mono hbw.out.size)).trans (HB3.out.mono (by have h1 := hbw.out.size; have h2 := HB2.out.size; omega))
      exact h1.grown HG.out h1.size (fun g hg => (oCk HOW.out hg).1)
    case measure => simp [intOf]; omega
   ·go_wp2_with fail
    go_roundw
    case rel =>
     have hpt := HPT.out
     rw [if_neg hs, List.append_nil] at hpt
     refine ⟨k + 1, a, n, c, rfl, by go_num, hlt, by omega, hdL (by rw [hpt]; exact hn.out), hdL (by rw [hpt]; exact HROW2.out), hdL (hbw.out.trans (HB2.out.mono hbw.out.size))⟩
    case measure => simp [intOf]; omega
  ·obtain rfl : k = ne := by omega
   have htk : (es.map Prod.fst).take k = es.map Prod.fst := tLe (by rw [List.length_map, ← HNE.out]; exact Nat.le_refl _)
   have hn2 := hn.out; have hr2 := hrow.out
   rw [htk] at hn2 hr2
   have HN2 := hdL hn2; have HR2 := hdL hr2
   clear hn2 hr2 htk
   go_wp2_with fail
   go_ret
   exact ⟨a, c, by rw [← HN2.out]; rfl, by rw [← HN2.out]; exact ownsC_mono HR2.out HB1.out.size, HB1.out.trans (hbw.out.mono HB1.out.size)⟩
def RGetP (L : List Ent) (p : Pk) (w : World) (e : Ending) (w' : World) : Prop := Below w.heap.size w w' ∧ ∃ a c, e = .returned (.tuple #[.agg (entL ((getE L p).1, (a, c))).toArray, .bool (getE L p).2]) ∧ PkgsAt zAll w' (.slice a (getE L p).1.choice.2.length c) (getE L p).1.choice.2
theorem rgetP_zero {L : List Ent} {p : Pk} {w w' : World} (hn : getE L p = (ent0E, false)) (hb : Below w.heap.size w w') : RGetP L p w (.returned (.tuple #[.agg #[.string ⟨#[]⟩, .int .i64 0, .int .i64 0, .int .i64 0, .int .i64 0, .string ⟨#[]⟩, .int .i64 0, .int .i64 0, .int .i64 0, .slice none 0 0], .bool false])) w' := by
 refine ⟨hb, none, 0, ?_, ?_⟩
 ·rw [hn]; rfl
 ·rw [hn]; exact PkgsAt.nil
theorem rget16_any (w : World) (es : List EV) (l : List Pk) (m : Int) (aL : Option Addr) (cL : Nat) (al : Option Addr) (nl cl : Nat) (h : EntsAt zAll w (.slice aL es.length cL) es) (hle : es.length ≤ 100000) (p : Pk) :
  Calls Tryz.prog 34 #[.agg #[.slice aL es.length cL, .slice al nl cl, .int .i64 m], .agg #[strV p.1, .int .i64 p.2.1, .int .i64 p.2.2.1, .int .i64 p.2.2.2]] w (RGetP (es.map Prod.fst) p w) := by
 obtain ⟨ne, hne⟩ : ∃ n, n = es.length := ⟨_, rfl⟩
 rw [← hne] at h hle ⊢
 obtain ⟨P, -, hP, -, -⟩ := strV_is p.1
 obtain ⟨v1, hv1⟩ : ∃ z, z = p.2.1 := ⟨_, rfl⟩
 obtain ⟨v2, hv2⟩ : ∃ z, z = p.2.2.1 := ⟨_, rfl⟩
 obtain ⟨v3, hv3⟩ : ∃ z, z = p.2.2.2 := ⟨_, rfl⟩
 rw [hP, ← hv1, ← hv2, ← hv3]
 obtain ⟨w1, hw1, hb1, hx1, y1, y2⟩ := aBk w #[.slice aL ne cL, .slice al nl cl, .int .i64 m] 70
 obtain ⟨w2, hw2, hb2, hx2, y3, y4⟩ := aBk w1 #[.string P, .int .i64 v1, .int .i64 v2, .int .i64 v3] 41
 obtain ⟨w3, hw3, hb3, hx3, y5, y6⟩ := aBk w2 #[.string ⟨#[]⟩, .int .i64 0, .int .i64 0, .int .i64 0, .int .i64 0, .string ⟨#[]⟩, .int .i64 0, .int .i64 0, .int .i64 0, .slice none 0 0] 45
 obtain ⟨b1, hb1e⟩ : ∃ b, w.heap.size = b := ⟨_, rfl⟩
 obtain ⟨b2, hb2e⟩ : ∃ b, w1.heap.size = b := ⟨_, rfl⟩
 obtain ⟨b3, hb3e⟩ : ∃ b, w2.heap.size = b := ⟨_, rfl⟩
 have hb12 := hb1.trans (hb2.mono hb1.size)
 have hb13 := hb12.trans (hb3.mono hb12.size)
 have g1 := (hb3.block _ (by omega)).trans ((hb2.block _ (by omega)).trans hx1)
 have g2 := (hb3.block _ (by omega)).trans hx2
 rw [hb1e] at g1; rw [hb2e] at g2; rw [hb3e] at hx3
 have k0 := cOh g1 0
 have HE := hdL ((h.keep (Z' := zLt w.heap.size) ⟨fun b hb _ => hb, Nat.le_refl _, fun _ _ _ h => h⟩).below hb13); have HB := hdL hb13; have HNE := hdL hne; have G2 := hdL g2; have G3 := hdL hx3; have HPS := hdL (And.intro hP (And.intro hv1 (And.intro hv2 hv3))); have HSZ := hdL (show w.heap.size ≤ b2 ∧ w.heap.size ≤ b3 ∧ b2 < b3 ∧ w3.heap.size = b3 + 1 from by omega)
 clear h hne hP hv1 hv2 hv3 hb1 hb2 hb3 hb12 hb13 g1 g2 hx1 hx2 hx3 y1 y2 y3 y4 y5 y6
 go_enter Tryz.func34, Tryz.ntmps34
 go_wp2_with fail
 clear k0
 go_loopw [11] (fun i wr => ∃ k : Nat, i = .int .i64 k ∧ k ≤ ne ∧ Hid (getE (es.map Prod.fst) p = getE ((es.map Prod.fst).drop k) p) ∧ Hid (Below w3.heap.size w3 wr)) (fun i _ => ne - (intOf i).toNat)
 case atStart => exact ⟨0, rfl, Nat.zero_le _, hdL rfl, hdL (Below.refl _ _)⟩
 case round =>
  obtain ⟨k, rfl, hk, hno, hbw⟩ := hrel
  have g2 := (hbw.out.block _ (loh G2.out)).trans G2.out
  have g3 := (hbw.out.block _ (loh G3.out)).trans G3.out
  by_cases hlt : k < ne
  ·obtain ⟨x, hx⟩ : ∃ x, es[k]? = some x := ⟨_, gEg (by rw [← HNE.out]; exact hlt)⟩
   obtain ⟨b, o, S', T', rfl, hS', hT', hwx, c0, c1, c2, c3, c4, c5, c6, c7, c8, c9⟩ := (HE.out.below hbw.out).cells hx
   obtain ⟨S, T, p1, p2, p3, sg, t1, t2, t3, n9, hl⟩ := ent_let x.1
   obtain rfl : S' = S := by rw [hl.s] at hS'; injection hS' with hS'; exact hS'.symm
   obtain rfl : T' = T := by rw [hl.t] at hT'; injection hT' with hT'; exact hT'.symm
   rw [← hl.p.1] at c1; rw [← hl.p.2.1] at c2; rw [← hl.p.2.2] at c3; rw [← hl.g] at c4; rw [← hl.c.1] at c6; rw [← hl.c.2.1] at c7; rw [← hl.c.2.2] at c8; rw [← hl.n] at c9
   obtain ⟨ax, hax⟩ : ∃ y, y = x.2.1 := ⟨_, rfl⟩
   obtain ⟨cx, hcx⟩ : ∃ y, y = x.2.2 := ⟨_, rfl⟩
   rw [← hax, ← hcx] at c9
   have heq := eqPk2 x.1.pkg p hl.s HPS.out.1
   rw [← hl.p.1, ← hl.p.2.1, ← hl.p.2.2, ← HPS.out.2.1, ← HPS.out.2.2.1, ← HPS.out.2.2.2] at heq
   have hx2 : (es.map Prod.fst)[k]? = some x.1 := by rw [List.getElem?_map, hx]; rfl
   have hd : (es.map Prod.fst).drop k = x.1 :: (es.map Prod.fst).drop (k + 1) := by rw [List.drop_eq_getElem_cons (gEs.1 hx2).1, (gEs.1 hx2).2]
   have hno2 := hno.out
   rw [hd] at hno2
   obtain ⟨w4, hw4, hb4, hx4, y1, y2⟩ := aBk wr #[.string S', .int .i64 p1, .int .i64 p2, .int .i64 p3, .int .i64 sg, .string T', .int .i64 t1, .int .i64 t2, .int .i64 t3, .slice ax n9 cx] 45
   obtain ⟨b4, hb4e⟩ : ∃ b, wr.heap.size = b := ⟨_, rfl⟩
   rw [hb4e] at hx4
   have g24 := (hb4.block _ (loh g2)).trans g2
   have g34 := (hb4.block _ (loh g3)).trans g3
   have HB4 := hdL hb4; have HL := hdL hl; have HNO := hdL hno2; have HWX := hdL (hwx.below hb4); have HAX := hdL (And.intro hax hcx); have G34 := hdL g34; have HX4 := hdL hx4
   clear hx hx2 hd hno2 hwx hS' hT' hl hax hcx hb4 g2 g3 y1 y2
   obtain ⟨q0, q1, q2, q3, q4, q5, q6, q7, q8, q9⟩ := cells10 hx4
   obtain ⟨e0, e1, e2, e3⟩ := cells4 g24
   clear hx4 g24
   cases hq : decide (x.1.pkg = p)
   ·rw [hq] at heq
    have HQ := hdL hq; clear hq
    go_wp2_with fail
    go_roundw
    case rel =>
     refine ⟨k + 1, by go_num, hlt, hdL ?_, hdL (hbw.out.trans (HB4.out.mono hbw.out.size))⟩
     rw [HNO.out]
     unfold getE
     rw [List.find?_cons, HQ.out]
    case measure => simp [intOf]; omega
   ·rw [hq] at heq
    have HQ := hdL hq; clear hq
    obtain ⟨w5, hw5, hx5, hc5⟩ := ten_set G34.out (.string S') (.int .i64 p1) (.int .i64 p2) (.int .i64 p3) (.int .i64 sg) (.string T') (.int .i64 t1) (.int .i64 t2) (.int .i64 t3) (.slice ax n9 cx)
    obtain ⟨z0, z1, z2, z3, z4, z5, z6, z7, z8, z9⟩ := cells10 G34.out
    have zf := foh G34.out
    have HX5 := hdL hx5; have HC5 := hdL hc5
    clear hx5 hc5
    go_wp2_with fail
    try rw [hw5]
    obtain ⟨r0, r1, r2, r3, r4, r5, r6, r7, r8, r9⟩ := cells10 HX5.out
    have hge : getE (es.map Prod.fst) p = (x.1, true) := by rw [HNO.out]; unfold getE; rw [List.find?_cons, HQ.out]
    refine bodyPost_ret (v := .tuple #[.agg #[.string S', .int .i64 p1, .int .i64 p2, .int .i64 p3, .int .i64 sg, .string T', .int .i64 t1, .int .i64 t2, .int .i64 t3, .slice ax n9 cx], .bool true]) (by simp [results, Tryz.results34, go_sem, r0, r1, r2, r3, r4, r5, r6, r7, r8, r9]) rfl ?_
    have hA := HB.out.trans ((hbw.out.trans (HB4.out.mono hbw.out.size)).mono HB.out.size)
    refine ⟨hA.trans (boC HC5.out (fun k hk => by rw [mSg.1 hk]; exact HSZ.out.2.1) hA.size), ax, cx, ?_, ?_⟩
    ·rw [hge]; dsimp only; rw [HL.out.arr]
    ·rw [hge]
     dsimp only
     have h1 := HWX.out
     rw [← HAX.out.1, ← HAX.out.2] at h1
     refine h1.keep (Keep.of_block (fun _ _ _ => trivial) HC5.out.size (fun b hl hz => HC5.out.block b hl (fun hm => by have h2 := mSg.1 hm; have h3 : b < w.heap.size := hz; have h4 := HSZ.out; omega)))
  ·obtain rfl : k = ne := by omega
   have hge : getE (es.map Prod.fst) p = (ent0E, false) := by rw [hno.out, List.drop_of_length_le (by rw [List.length_map, ← HNE.out]; exact Nat.le_refl _)]; rfl
   obtain ⟨w5, hw5, hx5, hc5⟩ := ten_set g3 (.string ⟨#[]⟩) (.int .i64 0) (.int .i64 0) (.int .i64 0) (.int .i64 0) (.string ⟨#[]⟩) (.int .i64 0) (.int .i64 0) (.int .i64 0) (.slice none 0 0)
   obtain ⟨z0, z1, z2, z3, z4, z5, z6, z7, z8, z9⟩ := cells10 g3
   have zf := foh g3
   have HX5 := hdL hx5; have HC5 := hdL hc5; have HGE := hdL hge
   clear hx5 hc5 hge g2 g3
   go_wp2_with fail
   try rw [hw5]
   obtain ⟨r0, r1, r2, r3, r4, r5, r6, r7, r8, r9⟩ := cells10 HX5.out
   refine bodyPost_ret (v := .tuple #[.agg #[.string ⟨#[]⟩, .int .i64 0, .int .i64 0, .int .i64 0, .int .i64 0, .string ⟨#[]⟩, .int .i64 0, .int .i64 0, .int .i64 0, .slice none 0 0], .bool false]) (by simp [results, Tryz.results34, go_sem, r0, r1, r2, r3, r4, r5, r6, r7, r8, r9]) rfl ?_
   have hA := HB.out.trans (hbw.out.mono HB.out.size)
   exact rgetP_zero HGE.out (hA.trans (boC HC5.out (fun k hk => by rw [mSg.1 hk]; exact HSZ.out.2.1) hA.size))
end Go.Proofs.YtaagkndhgicifaaGreat
