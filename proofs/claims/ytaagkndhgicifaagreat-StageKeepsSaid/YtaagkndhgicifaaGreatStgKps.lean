/- DERIVED. What is answered is its own: StageKeeps, walked. (Printed by stkeepsgen.py.) -/
import Derived.Test.YtaagkndhgicifaaGreatStgOpt
import Derived.Test.YtaagkndhgicifaaGreatStgAl
import Derived.Test.YtaagkndhgicifaaGreatStgBeg
import Derived.Test.YtaagkndhgicifaaGreatRowSet
namespace Go.Proofs.YtaagkndhgicifaaGreat
set_option maxHeartbeats 32000000
open Go.RowKit Go.Shelf
attribute [local go_sem] Oper.semAt_some
set_option linter.unusedVariables false
set_option linter.unusedSimpArgs false
set_option maxRecDepth 100000
theorem StgO.lens {Z : Zone} {w : World} {po : Option Addr} {es : List EV} {l : List Pk} {m : Int} (h : StgO Z w po es l m) : ∀ x ∈ es.map Prod.fst, x.choice.2.length ≤ 100000 := by
 intro x hx
 rcases h with ⟨-, rfl, -, -⟩ | ⟨Tb, -, h⟩
 ·cases hx
 ·obtain ⟨y, hy, rfl⟩ := List.mem_map.1 hx
  exact h.few.2.2 y hy
theorem setN'_only {X : Nat → Obj → Prop} {g : Nat} {T : TypeId} (hX : ∀ o, X g o) : ∀ (vs : List Value) (o : Nat) (W : World) (cur : Array Value), W.heap[g]? = some (.cells cur T (0, 0)) → OnlyX X W (setN.setN' W g o vs)
 | [], _, _, _, _ => OnlyX.refl _ _
 | v :: vs, o, W, cur, h => (OnlyX.set (i := o) (v := v) h rfl (hX _)).trans (setN'_only hX vs (o + 1) _ _ (heap_setCell_here (i := o) v h))
theorem RowS.low {T : TypeId} {sz b b' : Nat} {W : World} {a : Option Addr} {n : Nat} (h : RowS T sz b W a n) (hb : b' ≤ b) : RowS T sz b' W a n := by
 rcases h with h | ⟨g, cur, h1, h2, h3, h4⟩
 ·exact .inl h
 ·exact .inr ⟨g, cur, h1, Nat.le_trans hb h2, h3, h4⟩
theorem keeps_any (w : World) (v1 v2 : Value) (x : Pack) (hx : PackAt w v1 v2 x) (q : Pk) (hq : q.1.length ≤ 140737488351232) : Calls Tryz.prog 6 #[.agg #[v1, v2], .agg #[strV q.1, .int .i64 q.2.1, .int .i64 q.2.2.1, .int .i64 q.2.2.2]] w (fun e w' => e = .returned (.bool true) ∧ Below w.heap.size w w') := by
 obtain ⟨a0, c0, rfl, -⟩ := id hx.1
 obtain ⟨a5, c5, rfl, -⟩ := id hx.2.2
 obtain ⟨P, -, hP, -, -⟩ := strV_is q.1
 obtain ⟨n0, hn0⟩ : ∃ z, z = x.seeds.length := ⟨_, rfl⟩
 obtain ⟨n5, hn5⟩ : ∃ z, z = x.recs.length := ⟨_, rfl⟩
 obtain ⟨u1, hu1⟩ : ∃ z, z = q.2.1 := ⟨_, rfl⟩
 obtain ⟨u2, hu2⟩ : ∃ z, z = q.2.2.1 := ⟨_, rfl⟩
 obtain ⟨u3, hu3⟩ : ∃ z, z = q.2.2.2 := ⟨_, rfl⟩
 rw [← hn0, ← hn5] at hx; rw [← hn0, ← hn5, hP, ← hu1, ← hu2, ← hu3]
 obtain ⟨w1, hw1, hb1, hx1, y1, y2⟩ := aBk w #[.slice a0 n0 c0, .slice a5 n5 c5] 25
 obtain ⟨w2, hw2, hb2, hx2, y3, y4⟩ := aBk w1 #[.string P, .int .i64 u1, .int .i64 u2, .int .i64 u3] 41
 obtain ⟨w3, hw3, hb3, hx3, y5, y6⟩ := aBk w2 #[.bool false] 4
 obtain ⟨b2, hb2e⟩ : ∃ b, w.heap.size = b := ⟨_, rfl⟩
 obtain ⟨b3, hb3e⟩ : ∃ b, w1.heap.size = b := ⟨_, rfl⟩
 obtain ⟨b4, hb4e⟩ : ∃ b, w2.heap.size = b := ⟨_, rfl⟩
 have hb12 := hb1.trans (hb2.mono hb1.size)
 have hb13 := hb12.trans (hb3.mono hb12.size)
 have g1 := (hb3.block _ (by omega)).trans ((hb2.block _ (by omega)).trans hx1)
 have g2 := (hb3.block _ (by omega)).trans hx2
 rw [hb2e] at g1; rw [hb3e] at g2; rw [hb4e] at hx3
 have G23 := hdL g1; have G33 := hdL g2; have G43 := hdL hx3; have HB3 := hdL hb13; have HX := hdL hx; have HQP := hdL (And.intro hP (And.intro hu1 (And.intro hu2 hu3))); have HSZ := hdL (show w.heap.size ≤ b4 ∧ b4 < w3.heap.size ∧ b3 < w3.heap.size from by omega)
 have HQL := hdL hq; clear hq; clear hx hn0 hn5 hP hu1 hu2 hu3 hb1 hb2 hb3 hb12 hb13 hx1 hx2 hx3 g1 g2 y1 y2 y3 y4 y5 y6
 refine calls_of_wp_marks Tryz.func6 rfl ?_
 simp only [Tryz.ntmps6, List.size_toArray, List.length_cons, List.length_nil, Nat.reduceAdd, Nat.reduceSub, Array.replicate_succ, Array.replicate_zero, List.push_toArray, List.append_toArray, List.nil_append, List.cons_append]
 go_wp2_with fail
 refine (alive_any w3).mono ?_
 rintro e w4 ⟨rfl, h4⟩
 have G24 := hdL ((h4.block _ (loh G23.out)).trans G23.out); have G34 := hdL ((h4.block _ (loh G33.out)).trans G33.out); have G44 := hdL ((h4.block _ (loh G43.out)).trans G43.out)
 have HB4 := hdL (HB3.out.trans (h4.mono HB3.out.size))
 have HN4 := hdL (show b3 < w4.heap.size ∧ b4 < w4.heap.size from ⟨loh G34.out, loh G44.out⟩); clear h4
 obtain ⟨k0, k1⟩ := cells2 G24.out
 have HBG := hdL (begun_any w4 _ _ x (HX.out.below HB4.out))
 go_wp2_with fail
 refine HBG.out.mono ?_
 rintro e w5 ⟨h5, B, a1, n1, c1, a2, n2, c2, ok, rfl, hok⟩
 obtain ⟨w6, hw6, hb6, hx6, y1, y2⟩ := aBk w5 #[.slice a1 n1 c1, .slice a2 n2 c2] 28
 obtain ⟨b6, hb6e⟩ : ∃ b, w5.heap.size = b := ⟨_, rfl⟩
 rw [hb6e] at hx6
 have h46 := h5.trans (hb6.mono h5.size)
 have G36 := hdL ((h46.block _ (loh G34.out)).trans G34.out); have G46 := hdL ((h46.block _ (loh G44.out)).trans G44.out)
 have HB6 := hdL (HB4.out.trans (h46.mono HB4.out.size)); have HX6 := hdL hx6; have HB56 := hdL hb6
 clear h5 hb6 h46 hx6 y1 y2 k0 k1
 cases ok
 ·have z0 := cOh G46.out 0
  have zf := foh G46.out
  have r0 := one_cellB (.bool true) G46.out
  go_wp2_with fail
  refine marks_ret0 (v := .bool true) (by simp [results, Tryz.results6, go_sem, r0]) rfl ⟨rfl, ?_⟩
  first | exact (HB6.out).setCell (p := ⟨b4, 0, none⟩) HSZ.out.1 _ | (have hq := (HB6.out).setCell (p := ⟨b4, 0, none⟩) HSZ.out.1 (.bool true); rw [hb2e] at hq; exact hq)
 ·obtain ⟨st, F, hbeg⟩ := hok rfl
  have hbe6 := hbeg.below HB56.out
  have HBE := hdL hbe6
  clear hok hbeg hbe6
  have HF1 := hdL (fix_any w6 B F st HBE.out.stk 600 (by decide))
  go_wp2_with fail
  refine HF1.out.mono ?_
  intro e w7 hfp
  obtain ⟨h7, po, e0, rfl, hq1⟩ := hfp.q
  have G37 := hdL ((h7.block _ (loh G36.out)).trans G36.out); have G47 := hdL ((h7.block _ (loh G46.out)).trans G46.out)
  have hx67 := (h7.block _ (loh HX6.out)).trans HX6.out
  have href7 : RefAt zAll w7 _ st := (HBE.out.ref.below h7).keep (Z' := zAll) ⟨fun _ _ _ => trivial, Nat.le_refl _, fun _ _ _ h => h⟩
  have HQ1 := hdL hq1; have HX67 := hdL hx67; have HB7 := hdL (HB6.out.trans (h7.mono HB6.out.size)); have H67 := hdL h7; have HRF := hdL (rfix_any w7 _ st href7 HBE.out.few.1 HBE.out.few.2 HBE.out.good 600 (by decide))
  clear hfp h7 hq1 hx67 href7
  obtain ⟨k0, k1⟩ := cells2 HX67.out
  go_wp2_with fail
  refine HRF.out.mono ?_
  intro e w8 hrf
  obtain ⟨h8, m, es, es', l, aL, cL, al, cl, rfl, hso, hen, hpl, hee, hpe, hl1, hl2⟩ := fix_both HQ1.out hrf
  obtain ⟨nE, hnE⟩ : ∃ n, n = es'.length := ⟨_, rfl⟩
  obtain ⟨nl, hnl⟩ : ∃ n, n = l.length := ⟨_, rfl⟩
  rw [← hnE] at hen hl1 ⊢
  rw [← hnl] at hpl hl2 ⊢
  obtain ⟨w9, hw9, hb9, hx9, y1, y2⟩ := aBk w8 #[.slice aL nE cL, .slice al nl cl, .int .i64 m] 70
  obtain ⟨b9, hb9e⟩ : ∃ b, w8.heap.size = b := ⟨_, rfl⟩
  rw [hb9e] at hx9
  have h79 := h8.trans (hb9.mono h8.size)
  have G39 := hdL ((h79.block _ (loh G37.out)).trans G37.out); have G49 := hdL ((h79.block _ (loh G47.out)).trans G47.out)
  have HSO := hdL (hso.below h79); have HEN := hdL (hen.below hb9); have HPL := hdL (hpl.below hb9); have HEE := hdL hee; have HPE := hdL hpe; have HNE := hdL (And.intro hnE hnl); have HX9 := hdL hx9; have HB9 := hdL (HB7.out.trans (h79.mono HB7.out.size))
  have h69 := H67.out.trans (h79.mono H67.out.size)
  have hst9 := HBE.out.stk.below h69
  have hsd := stkseed_any w9 B F st hst9 q HQL.out
  rw [HQP.out.1, ← HQP.out.2.1, ← HQP.out.2.2.1, ← HQP.out.2.2.2] at hsd
  have hnf : ∀ b, (b < w4.heap.size ∨ w6.heap.size ≤ b) → b ∉ F := fun b hb hm => by have h1 := HBE.out.stk.lt b hm; have h2 := HBE.out.new b hm; omega
  have hb9n : w6.heap.size ≤ b9 := by rw [← hb9e]; exact Nat.le_trans H67.out.size h8.size
  have HSD := hdL hsd; have HNF := hdL hnf; have HB9N := hdL hb9n; have H69 := hdL h69; have HL1 := hdL hl1; have HL2 := hdL hl2; have HSZ7 := hdL (show w6.heap.size ≤ w7.heap.size from H67.out.size)
  clear hrf h8 hso hen hpl hee hpe hnE hnl hb9 hx9 h79 y1 y2 k0 k1 h69 hst9 hsd hnf hb9n hl1 hl2
  obtain ⟨k0, k1, k2, k3⟩ := cells4 G39.out
  go_wp2_with fail
  refine HSD.out.mono ?_
  intro e wA hsp
  obtain ⟨rfl, F', -, hch, -⟩ := hsp
  obtain ⟨NA, hNA⟩ : ∃ n, n = wA.heap.size := ⟨_, rfl⟩
  have hkp := fun b (hb : b < w9.heap.size) (hn : b < w4.heap.size ∨ w6.heap.size ≤ b) => hch.block b hb (HNF.out b hn)
  have hzn : ∀ b, b < w9.heap.size → b < NA := fun b hb => Nat.lt_of_lt_of_le hb (by rw [hNA]; exact hch.size)
  have hks : Keep (zNew w6.heap.size) (fun b => b < NA) w9 wA := Keep.of_block (fun b hl _ => hzn b hl) hch.size (fun b hl hz => hkp b hl (.inr hz))
  have hks7 : Keep (zNew w7.heap.size) (fun b => b < NA) w9 wA := Keep.of_block (fun b hl _ => hzn b hl) hch.size (fun b hl hz => hkp b hl (.inr (Nat.le_trans HSZ7.out hz)))
  have G3A := hdL ((hkp b3 (loh G39.out) (.inl HN4.out.1)).trans G39.out); have G4A := hdL ((hkp b4 (loh G49.out) (.inl HN4.out.2)).trans G49.out); have HX9A := hdL ((hkp b9 (loh HX9.out) (.inr HB9N.out)).trans HX9.out)
  have HSOA := hdL (HSO.out.keep hks); have HENA := hdL (HEN.out.keep hks7); have HPLA := hdL (HPL.out.keep hks7)
  have HBA := hdL (HB9.out.trans (boC hch (fun b hb => Nat.le_trans HB4.out.size (HBE.out.new b hb)) HB9.out.size))
  have HNA := hdL (show NA ≤ wA.heap.size ∧ b9 < NA ∧ b4 < NA ∧ b3 < NA ∧ w.heap.size ≤ NA from ⟨Nat.le_of_eq hNA, by rw [hNA]; exact loh HX9A.out, by rw [hNA]; exact loh G4A.out, by rw [hNA]; exact loh G3A.out, by rw [hNA]; exact HBA.out.size⟩)
  clear hNA hch hkp hzn hks hks7 k0 k1 k2 k3
  go_wp2_with fail
  refine (sallf_any wA po).mono ?_
  rintro e wC ⟨rfl, hwC⟩
  obtain ⟨wc', hwc', hbC, hxC, z1, z2⟩ := aBk wA #[.pointer po] 31
  obtain rfl : wC = wc' := hwC.trans hwc'
  have hsoC : StgO (fun b => b < NA) wC po es l m := HSOA.out.below hbC
  have hst := oall_stops 7 (by omega) hsoC wA.heap.size hxC (XNew NA) (fun b hb o hx => Nat.not_le.2 hb hx)
  obtain ⟨C, hCe⟩ : ∃ C, wA.heap.size = C := ⟨_, rfl⟩
  rw [hCe] at hst
  have HST := hdL hst; have HBC := hdL hbC; have HNC := hdL (Nat.le_trans HNA.out.1 hbC.size); have HLEN := hdL hsoC.lens
  clear hst hsoC hbC hxC hwC hwc' z1 z2
  go_wp2_with fail
  try rw [hCe]
  refine (wpIn_wide (n := 8)).1 ?_
  refine range_wideE (n := 8) (by omega) (gf := 48) (lb := #[.pointer (some ⟨C, 0, none⟩)]) rfl enters_sall HST.out (Below.refl _ _) (fun _ => rfl)
   (fun _ V => Below NA wC V) (fun _ _ _ => False) ?own1 (fun c s P Q row hs hg hr => hs) (Below.refl _ _) ?round ?done ?stop
  case own1 =>
   rintro pre A C' row h2 hg hr
   exact h2.grown hg (Nat.le_trans HNC.out h2.size) (fun k e => Nat.le_trans HNC.out (hr k e).1)
  case stop =>
   rintro D c9 pre V hD hp hx hK
   exact hx.elim
  case round =>
   rintro l7 pre x Wr n0' hl7 hn0' hIr hpre hex
   have hlen := HLEN.out x.1 ((List.map_append (f := Prod.fst) (l₁ := pre) (l₂ := [x]) ▸ hpre : pre.map Prod.fst ++ [x.1] <+: es.map Prod.fst).subset (List.mem_append_right _ (List.mem_singleton_self _)))
   obtain ⟨X, Y, r1, r2, r3, rg, v1', v2', v3', m9, hl⟩ := ent_let x.1
   obtain ⟨xe, ax, cx⟩ := x
   dsimp only at hl hlen
   unfold encE
   rw [hl.arr]
   rw [← hl.n] at hlen
   gi_wp2
   refine ⟨(Below.refl _ _).alloc (Nat.le_refl _) _, ?_⟩
   rintro W2 hbI hsame rl
   clear rl
   have hp2 := hsame.heap (heap_alloc_new Wr (.cells #[.string X, .int .i64 r1, .int .i64 r2, .int .i64 r3, .int .i64 rg, .string Y, .int .i64 v1', .int .i64 v2', .int .i64 v3', .slice ax m9 cx] 45))
   have hexW : PRow n0' W2 (.slice ax xe.choice.2.length cx, xe.choice.2) := ownsC_keep hex (fun g hg => by obtain ⟨_, cur, hc⟩ := oCk hex hg; exact (hsame.heap ((((Below.refl _ Wr).alloc (Nat.le_refl _) (.cells #[.string X, .int .i64 r1, .int .i64 r2, .int .i64 r3, .int .i64 rg, .string Y, .int .i64 v1', .int .i64 v2', .int .i64 v3', .slice ax m9 cx] 45)).block g (loh hc)).trans hc)).trans hc.symm)
   have hws : RowS 41 4 NA W2 ax xe.choice.2.length := (RowS.own hexW).low (Nat.le_trans HNC.out hn0')
   rw [← hl.n] at hws
   obtain ⟨Bp, hBp⟩ : ∃ b, Wr.heap.size = b := ⟨_, rfl⟩
   rw [hBp] at hp2 ⊢
   have HWX := hdL hws; have HP := hdL hp2; have HBI := hdL hbI
   clear hIr hpre hex hexW hws hl hsame hbI hBp
   have j9 := cOh hp2 9
   clear hp2
   gi_wp2
   clear j9
   gi_loopw [48] (fun i wr => ∃ k : Nat, i = .int .i64 k ∧ k ≤ m9 ∧ Hid (RowS 41 4 NA wr ax m9) ∧ Hid (KT 45 W2 wr) ∧ Hid (OnlyX (XNew NA) W2 wr) ∧ Hid (Below NA wC wr)) (fun i _ => m9 - (intOf i).toNat)
   case atStart => exact ⟨0, rfl, Nat.zero_le _, HWX, hdL (fun _ _ _ h => h), hdL (OnlyX.refl _ _), HBI⟩
   case round =>
    obtain ⟨k, rfl, hk, hrs, hkE, hox, hbv⟩ := hrel
    obtain ⟨V0, hV0⟩ : ∃ W, W = wr := ⟨_, rfl⟩
    subst hV0
    have hE := hkE.out _ _ _ HP.out
    have j9 := cOh hE 9
    by_cases hlt2 : k < m9
    ·obtain ⟨g, cur, rfl, hgN, hgc, hgs⟩ := hrs.out.resolve_left (by omega)
     obtain ⟨z0, hz0⟩ : ∃ z, cur[k * 4]? = some z := ⟨_, Array.getElem?_eq_getElem (by omega)⟩
     obtain ⟨z1, hz1⟩ : ∃ z, cur[k * 4 + 1]? = some z := ⟨_, Array.getElem?_eq_getElem (by omega)⟩
     obtain ⟨z2, hz2⟩ : ∃ z, cur[k * 4 + 2]? = some z := ⟨_, Array.getElem?_eq_getElem (by omega)⟩
     obtain ⟨z3, hz3⟩ : ∃ z, cur[k * 4 + 3]? = some z := ⟨_, Array.getElem?_eq_getElem (by omega)⟩
     have y0' := (cOh hgc (k * 4)).trans hz0
     have y1' := (cOh hgc (k * 4 + 1)).trans hz1
     have y2' := (cOh hgc (k * 4 + 2)).trans hz2
     have y3' := (cOh hgc (k * 4 + 3)).trans hz3
     have yf := foh hgc
     obtain ⟨V1, hV1⟩ : ∃ V, ((((V0.setCell ⟨g, k * 4, none⟩ (.string ⟨#[]⟩)).setCell ⟨g, k * 4 + 1, none⟩ (.int .i64 0)).setCell ⟨g, k * 4 + 2, none⟩ (.int .i64 0)).setCell ⟨g, k * 4 + 3, none⟩ (.int .i64 0)) = V := ⟨_, rfl⟩
     obtain ⟨⟨cur2, s1, s2, -⟩, s3, s4, s5⟩ := setN_spec [.string ⟨#[]⟩, .int .i64 0, .int .i64 0, .int .i64 0] (k * 4) V0 cur hgc
     have hon := setN'_only (X := XNew NA) (fun _ => hgN) [.string ⟨#[]⟩, .int .i64 0, .int .i64 0, .int .i64 0] (k * 4) V0 cur hgc
     rw [← setN_eq, ← set4, hV1] at hon
     rw [← set4, hV1] at s1 s3 s4 s5
     have HR1 := hdL (show RowS 41 4 NA V1 (some ⟨g, 0, none⟩) m9 from .inr ⟨g, cur2, rfl, hgN, s1, by omega⟩); have HE1 := hdL (KT.trans hkE.out (s4 _ (by decide))); have HO1 := hdL (hox.out.trans hon); have HB1 := hdL (s5 NA wC hgN hbv.out)
     clear s1 s2 s3 s4 s5 hon hgc hgs hgN hz0 hz1 hz2 hz3 hE
     gi_wp2
     try rw [hV1]
     go_roundw
     case rel => exact ⟨k + 1, by go_num, hlt2, HR1, HE1, HO1, HB1⟩
     case measure => simp [intOf]; omega
    ·obtain rfl : k = m9 := by omega
     gi_wp2
     exact ⟨hox.out.rnd, hbv.out⟩
  case done =>
   rintro D ys V hD - hI hK
   have hbV : Below NA wA V := (HBC.out.mono HNA.out.1).trans hI
   have G3V := hdL ((hbV.block _ HNA.out.2.2.2.1).trans G3A.out); have G4V := hdL ((hbV.block _ HNA.out.2.2.1).trans G4A.out); have HX9V := hdL ((hbV.block _ HNA.out.2.1).trans HX9A.out)
   have HSOV := hdL (HSOA.out.keep (Keep.low hbV)); have HENV := hdL (HENA.out.keep (Keep.low hbV)); have HPLV := hdL (HPLA.out.keep (Keep.low hbV)); have HKD := hdL hK; have HBV := hdL (HBA.out.trans (hbV.mono HNA.out.2.2.2.2)); have HND := hdL (show wC.heap.size ≤ D from hD); have HBWC2 := hdL (show w.heap.size ≤ wC.heap.size from Nat.le_trans HBA.out.size HBC.out.size); have HNV := hdL (Nat.le_trans HNA.out.1 hbV.size)
   clear hbV hI hK
   have hls := oless_any HSOV.out
   rw [← HNE.out.2] at hls
   have HLS := hdL hls; clear hls
   go_wp2_with fail
   refine HLS.out.mono ?_
   rintro e V1 ⟨al1, cl1, rfl, hrow, h1⟩
   have HRW := hdL (RowS.own hrow : RowS 41 4 V.heap.size V1 al1 nl); have H1 := hdL h1; clear hrow h1
   go_wp2_with fail
   go_loopw [62] (fun i wr => ∃ k : Nat, i = .int .i64 k ∧ k ≤ nl ∧ Hid (RowS 41 4 V.heap.size wr al1 nl) ∧ Hid (Below V.heap.size V wr)) (fun i _ => nl - (intOf i).toNat)
   case atStart => exact ⟨0, rfl, Nat.zero_le _, HRW, H1⟩
   case round =>
    obtain ⟨k, rfl, hk, hrs, hbv⟩ := hrel
    obtain ⟨V0, hV0⟩ : ∃ W, W = wr := ⟨_, rfl⟩
    subst hV0
    have hnl9 : nl ≤ 100000 := HL2.out
    by_cases hlt2 : k < nl
    ·obtain ⟨g, cur, rfl, hgN, hgc, hgs⟩ := hrs.out.resolve_left (by omega)
     obtain ⟨z0, hz0⟩ : ∃ z, cur[k * 4]? = some z := ⟨_, Array.getElem?_eq_getElem (by omega)⟩
     obtain ⟨z1, hz1⟩ : ∃ z, cur[k * 4 + 1]? = some z := ⟨_, Array.getElem?_eq_getElem (by omega)⟩
     obtain ⟨z2, hz2⟩ : ∃ z, cur[k * 4 + 2]? = some z := ⟨_, Array.getElem?_eq_getElem (by omega)⟩
     obtain ⟨z3, hz3⟩ : ∃ z, cur[k * 4 + 3]? = some z := ⟨_, Array.getElem?_eq_getElem (by omega)⟩
     have y0' := (cOh hgc (k * 4)).trans hz0
     have y1' := (cOh hgc (k * 4 + 1)).trans hz1
     have y2' := (cOh hgc (k * 4 + 2)).trans hz2
     have y3' := (cOh hgc (k * 4 + 3)).trans hz3
     have yf := foh hgc
     obtain ⟨V1, hV1⟩ : ∃ V, ((((V0.setCell ⟨g, k * 4, none⟩ (.string ⟨#[]⟩)).setCell ⟨g, k * 4 + 1, none⟩ (.int .i64 0)).setCell ⟨g, k * 4 + 2, none⟩ (.int .i64 0)).setCell ⟨g, k * 4 + 3, none⟩ (.int .i64 0)) = V := ⟨_, rfl⟩
     obtain ⟨⟨cur2, s1, s2, -⟩, s3, s4, s5⟩ := setN_spec [.string ⟨#[]⟩, .int .i64 0, .int .i64 0, .int .i64 0] (k * 4) V0 cur hgc
     rw [← set4, hV1] at s1 s3 s4 s5
     have HR1 := hdL (show RowS 41 4 V.heap.size V1 (some ⟨g, 0, none⟩) nl from .inr ⟨g, cur2, rfl, hgN, s1, by omega⟩); have HB1 := hdL (s5 V.heap.size V hgN hbv.out)
     clear s1 s2 s3 s4 s5 hgc hgs hgN hz0 hz1 hz2 hz3
     go_wp2_with fail
     try rw [hV1]
     go_roundw
     case rel => exact ⟨k + 1, by go_num, hlt2, HR1, HB1⟩
     case measure => simp [intOf]; omega
    ·obtain rfl : nl = k := by omega
     have hee : ((e0 : Int) != e0) = false := by simp
     have hbe := hbv.out
     have G4e := hdL ((hbe.block _ (loh G4V.out)).trans G4V.out); have HX9e := hdL ((hbe.block _ (loh HX9V.out)).trans HX9V.out); have HDe := hdL ((hbe.block _ (loh HKD.out)).trans HKD.out); have HSOe := hdL (HSOV.out.below hbe); have HENe := hdL (HENV.out.below hbe); have HPLe := hdL (HPLV.out.below hbe); have HBWe := hdL (HBV.out.trans (hbe.mono HBV.out.size))
     have hNB : b4 < V0.heap.size ∧ b9 < V0.heap.size ∧ D < V0.heap.size ∧ NA ≤ V0.heap.size ∧ w.heap.size ≤ V0.heap.size := ⟨loh G4e.out, loh HX9e.out, loh HDe.out, Nat.le_trans HNV.out hbe.size, HBWe.out.size⟩
     clear hbe hrs
     obtain ⟨W50, hW50, hb50, hx50, y1, y2⟩ := aBk V0 #[.int .i64 0] 3
     obtain ⟨bi, hbie⟩ : ∃ b, V0.heap.size = b := ⟨_, rfl⟩
     rw [hbie] at hx50 hNB
     obtain ⟨W5, hW5⟩ : ∃ W, W50.setCell ⟨bi, 0, none⟩ (.int .i64 0) = W := ⟨_, rfl⟩
     have hx5 : W5.heap[bi]? = some (.cells #[.int .i64 0] 3 (0, 0)) := by rw [← hW5]; exact set_at 0 _ hx50 (by simp)
     have hb5 : Below V0.heap.size V0 W5 := by rw [← hW5]; exact hb50.setCell (p := ⟨bi, 0, none⟩) (Nat.le_of_eq hbie) _
     have xx0 := cOh hx50 0
     have xxf := foh hx50
     have HB5 := hdL hb5; have HX5 := hdL hx5; have HNB := hdL hNB; clear hb5 hx5 hNB hb50 hx50 y1 y2
     go_upto_region 25 with fail
     try rw [hW5]
     clear xx0 xxf hW5
     go_wp2_with fail
     refine (sallf_any W5 po).mono ?_
     rintro e wK ⟨rfl, hwK⟩
     obtain ⟨wk', hwk', hbK, hxK, z1, z2⟩ := aBk W5 #[.pointer po] 31
     obtain rfl : wK = wk' := hwK.trans hwk'
     have hbk := HB5.out.trans (hbK.mono HB5.out.size)
     have hsoK : StgO (fun b => b < bi) wK po es l m := (HSOe.out.below hbk).keep ⟨fun b _ h => Nat.lt_of_lt_of_le h HNB.out.2.2.2.1, Nat.le_refl _, fun _ _ _ h => h⟩
     have henK : EntsAt (fun b => b < bi) wK (.slice aL nE cL) es' := (HENe.out.below hbk).keep ⟨fun b _ h => Nat.lt_of_lt_of_le h HNB.out.2.2.2.1, Nat.le_refl _, fun _ _ _ h => h⟩
     have hst := oall_stops 7 (by omega) hsoK W5.heap.size hxK (XNew bi) (fun b hb o hx => Nat.not_le.2 hb hx)
     obtain ⟨C2, hC2e⟩ : ∃ C, W5.heap.size = C := ⟨_, rfl⟩
     rw [hC2e] at hst
     have hxiK := (hbK.block _ (loh HX5.out)).trans HX5.out
     have hszK : bi < wK.heap.size := loh hxiK
     have HST := hdL hst; have HSOK := hdL hsoK; have HPLK := hdL (((HPLe.out.below hbk).keep ⟨fun b _ h => Nat.lt_of_lt_of_le h HNB.out.2.2.2.1, Nat.le_refl _, fun _ _ _ h => h⟩ : PkgsAt (fun b => b < bi) wK _ _)); have HENK := hdL henK; have G4K := hdL ((hbk.block _ (loh G4e.out)).trans G4e.out); have HX9K := hdL ((hbk.block _ (loh HX9e.out)).trans HX9e.out); have HDK := hdL ((hbk.block _ (loh HDe.out)).trans HDe.out); have HBWK := hdL (HBWe.out.trans (hbk.mono HBWe.out.size)); have HIK := hdL hxiK; have HSK := hdL hszK
     clear hst hsoK henK hbK hxK hwK hwk' hbk hxiK hszK z1 z2
     go_wp2_with fail
     try rw [hC2e]
     refine (wpIn_wide (n := 8)).1 ?_
     refine range_wideE (n := 8) (by omega) (gf := 48) (lb := #[.pointer (some ⟨C2, 0, none⟩)]) rfl enters_sall HST.out (Below.refl _ _) (fun _ => rfl)
      (fun pre V => V.heap[bi]? = some (.cells #[.int .i64 (pre.length : Int)] 3 (0, 0)) ∧ Below bi wK V) (fun _ _ _ => False) ?own2 (fun c s P Q row hs hg hr => hs) ⟨HIK.out, Below.refl _ _⟩ ?round2 ?done2 ?stop2
     case own2 =>
      rintro pre A C' row ⟨h1, h2⟩ hg hr
      exact ⟨kp_turn hg hr h1, h2.grown hg (Nat.le_trans (Nat.le_of_lt HSK.out) h2.size) (fun k e => Nat.le_trans (Nat.le_of_lt HSK.out) (hr k e).1)⟩
     case stop2 =>
      rintro D9 c9 pre V' hD hp hx hK
      exact hx.elim
     case round2 =>
      rintro l7 pre x Wr n0' hl7 hn0' hIr hpre hex
      have hl1 := HL1.out
      have hpre2 : pre.map Prod.fst ++ [x.1] <+: es.map Prod.fst := by have := hpre; rwa [List.map_append] at this
      have hat := (prefix_at hpre2).1
      rw [List.length_map, ← HEE.out, List.getElem?_map] at hat
      obtain ⟨y, hy, hyx⟩ : ∃ y, es'[pre.length]? = some y ∧ y.1 = x.1 := by
       cases hc : es'[pre.length]? with
       | none => rw [hc] at hat; cases hat
       | some y => rw [hc] at hat; exact ⟨y, rfl, sIj hat⟩
      have hkn : pre.length < nE := by rw [HNE.out.1]; exact (gEs.1 hy).1
      obtain ⟨X, Y, r1, r2, r3, rg, v1', v2', v3', m9, hl⟩ := ent_let x.1
      obtain ⟨xe, ax, cx⟩ := x
      obtain ⟨ye, ay, cy⟩ := y
      dsimp only at hl hyx
      subst hyx
      unfold encE
      rw [hl.arr]
      gi_wp2
      refine ⟨(Below.refl _ _).alloc (Nat.le_refl _) _, ?_⟩
      rintro W2 hbi hbI hsame rl hrl
      clear hrl
      have hp2 := hsame.heap (heap_alloc_new Wr (.cells #[.string X, .int .i64 r1, .int .i64 r2, .int .i64 r3, .int .i64 rg, .string Y, .int .i64 v1', .int .i64 v2', .int .i64 v3', .slice ax m9 cx] 45))
      have hexW : PRow n0' W2 (.slice ax ye.choice.2.length cx, ye.choice.2) := ownsC_keep hex (fun g hg => by obtain ⟨_, cur, hc⟩ := oCk hex hg; exact (hsame.heap ((((Below.refl _ Wr).alloc (Nat.le_refl _) (.cells #[.string X, .int .i64 r1, .int .i64 r2, .int .i64 r3, .int .i64 rg, .string Y, .int .i64 v1', .int .i64 v2', .int .i64 v3', .slice ax m9 cx] 45)).block g (loh hc)).trans hc)).trans hc.symm)
      obtain ⟨Bp, hBp⟩ : ∃ b, Wr.heap.size = b := ⟨_, rfl⟩
      rw [hBp] at hp2 ⊢
      obtain ⟨k, hk⟩ : ∃ k, k = pre.length := ⟨_, rfl⟩
      rw [← hk] at hbi hy hkn
      have henW := HENK.out.keep (Keep.low hbI)
      have hchl : ye.choice.2.length ≤ 8796093022208 := by
       obtain ⟨a', c', e', hb', -⟩ := (ents_mem henW _ (List.mem_of_getElem? hy) : PkgsAt _ _ _ _)
       exact hb'.max
      obtain ⟨b0, o0, S', T', rfl, hS', hT', hwx, c0, c1, c2, c3, c4, c5, c6, c7, c8, c9⟩ := henW.cells hy
      obtain rfl : S' = X := by rw [hl.s] at hS'; injection hS' with hS'; exact hS'.symm
      obtain rfl : T' = Y := by rw [hl.t] at hT'; injection hT' with hT'; exact hT'.symm
      have hs16 := fun W (hW : Below W2.heap.size W2 W) => rsame16_any W ye ye ax ay cx cy _ _ ((PRow.at hexW hchl).below hW) (hwx.below hW)
      simp only [hl.arr, entEq_iff.2 (rfl : ye = ye)] at hs16
      dsimp only at c0 c1 c2 c3 c4 c5 c6 c7 c8 c9
      rw [← hl.p.1] at c1; rw [← hl.p.2.1] at c2; rw [← hl.p.2.2] at c3; rw [← hl.g] at c4; rw [← hl.c.1] at c6; rw [← hl.c.2.1] at c7; rw [← hl.c.2.2] at c8; rw [← hl.n] at c9
      have hx9W := (hbI.block _ HNB.out.2.1).trans HX9K.out
      obtain ⟨ι, F, hF0, hFB, hFG⟩ := below_fam W2
      have hcF : ∀ a v, W2.cell? a = some v → ∀ n, (F n).cell? a = some v := fun a v h n => bkp (hFB n) _ _ h
      have x0 := hcF _ _ (cOh hp2 0); have y0 := hcF _ _ c0
      have x1 := hcF _ _ (cOh hp2 1); have y1 := hcF _ _ c1
      have x2 := hcF _ _ (cOh hp2 2); have y2 := hcF _ _ c2
      have x3 := hcF _ _ (cOh hp2 3); have y3 := hcF _ _ c3
      have x4 := hcF _ _ (cOh hp2 4); have y4 := hcF _ _ c4
      have x5 := hcF _ _ (cOh hp2 5); have y5 := hcF _ _ c5
      have x6 := hcF _ _ (cOh hp2 6); have y6 := hcF _ _ c6
      have x7 := hcF _ _ (cOh hp2 7); have y7 := hcF _ _ c7
      have x8 := hcF _ _ (cOh hp2 8); have y8 := hcF _ _ c8
      have x9 := hcF _ _ (cOh hp2 9); have y9 := hcF _ _ c9
      have fi := hcF _ _ (cOh hbi 0); have f9 := hcF _ _ (cOh hx9W 0)
      have hadd : IntKind.i64.wrap ((k : Int) + 1) = (k : Int) + 1 := IntWalk.i64_in _ (by omega)
      have hgd : decide (nE ≤ k) = false := decide_eq_false (by omega)
      have hge : ¬ nE ≤ k := by omega
      have HCALL := hdL (calls_fam hFB hFG hs16); have HF0 := hdL hF0; have HFB := hdL hFB; have HBI := hdL hbi; have HI := hdL hbI; have HK := hdL hk; have HBP := hdL (show bi ≤ W2.heap.size from Nat.le_of_lt (loh hbi))
      clear hF0 hFB hFG hcF hs16 hbi hbI hk hp2 hexW hsame hIr hpre hpre2 hat hy hwx hS' hT' hl hex henW hx9W hchl hBp c0 c1 c2 c3 c4 c5 c6 c7 c8 c9
      gi_wp2
      obtain ⟨n0, hn0⟩ := HF0.out 1
      have hne : Nonempty ι := ⟨n0⟩
      refine region_fam_in F n0 hn0 (by kernel_rfl) (by kernel_rfl) (by kernel_rfl) ?_
      repeat (go_big_quiet_step ((go_at_call 32; exact HCALL.out _)))
      refine wpQuiet_nil ?_
      intro _ hw'
      obtain ⟨m0, hw''⟩ := hw'
      subst hw''
      have hbF := ((HFB.out m0).block _ (loh HBI.out)).trans HBI.out
      have e0' := cOh hbF 0
      have ef := foh hbF
      have HBF := hdL hbF; clear hbF
      gi_wp2
      refine ⟨((OnlyX.of_below (HFB.out m0)).trans (OnlyX.set HBF.out rfl (Nat.le_refl _))).rnd, ?_, ((HI.out.trans ((HFB.out m0).mono (by have := HBP.out; omega))).setCell (p := ⟨bi, 0, none⟩) (Nat.le_refl _) _)⟩
      rw [lAp, lSg, ← HK.out]
      exact set_at 0 _ HBF.out (ds := #[.int .i64 ((k + 1 : Nat) : Int)]) (by simp)
     case done2 =>
      rintro D2 ys Vb hD2 hS ⟨hbi, hbI⟩ hK2
      have hyl : ys.length = nE := by have := congrArg List.length hS; rw [List.length_map, ← HEE.out, List.length_map] at this; rw [this, HNE.out.1]
      rw [hyl] at hbi
      have G4b := hdL ((hbI.block _ HNB.out.1).trans G4K.out); have HX9b := hdL ((hbI.block _ HNB.out.2.1).trans HX9K.out); have HDb := hdL ((hbI.block _ HNB.out.2.2.1).trans HDK.out); have HD2 := hdL hK2; have HIb := hdL hbi; have HSOb := hdL (HSOK.out.keep (Keep.low hbI)); have HPLb := hdL (HPLK.out.keep (Keep.low hbI)); have HBWb := hdL (HBWK.out.trans (hbI.mono HNB.out.2.2.2.2)); have HDN := hdL (show bi < D2 from Nat.lt_of_lt_of_le HSK.out hD2)
      clear hbi hbI hK2 hyl hS
      skip
      have j0 := cOh HX9b.out 1
      skip
      skip
      have hnn : ((nE : Int) == (nE : Int)) = true := by simp
      clear j0
      have hls := fun W (hW : Below Vb.heap.size Vb W) => oless_any (HSOb.out.below hW)
      rw [← HNE.out.2] at hls
      have HLB := hdL hls; clear hls
      have hA : ∀ W, Below Vb.heap.size Vb W → ∀ q ∈ ([(4, (fun W : World => W.cell? ⟨b9, 1, none⟩ = some (.slice al nl cl)))] : List (Nat × (World → Prop))), q.2 W := by
       intro W hW q hq
       obtain rfl := mSg.1 hq
       exact bkp hW _ _ (cOh HX9b.out 1)
      have HA := hdL hA; clear hA
      have HB0 := hdL ((Below.refl Vb.heap.size Vb).drew)
      simp only [Exit.inBlock, Exit.then]
      go_upto_region 30 with fail
      refine wp_noP ?_
      refine UpV.start [(4, (fun W : World => W.cell? ⟨b9, 1, none⟩ = some (.slice al nl cl)))] (by kernel_rfl) ?_
      refine UpV.tp 0 (v := .pointer po) rfl (Or.inl ⟨by rfl, ?_⟩) (owe_all (HA.out _ HB0.out)) ?_
      ·intro w hSw; first | rfl | (try simp only [sqG]; go_simp; done) | (try simp only [sqG]; go_simp; simp)
      try simp only [Act.put, sqZ]
      refine UpV.tp 2 (v := .pointer (some ⟨b9, 1, none⟩)) rfl (Or.inl ⟨by rfl, ?_⟩) (owe_all (HA.out _ HB0.out)) ?_
      ·intro w hSw; first | rfl | (try simp only [sqG]; go_simp; done) | (try simp only [sqG]; go_simp; simp)
      try simp only [Act.put, sqZ]
      refine UpV.tk 3 4 (v := .slice al nl cl) rfl (mCs ..) (Or.inl ⟨by rfl, ?_⟩) (owe_all (HA.out _ HB0.out)) ?_
      ·intro w hSw; have s0 := hSw; go_simp
      try simp only [Act.put, sqZ]
      refine UpV.one 1 (by kernel_rfl) rfl ?_
      intro K hK
      try simp only [sqG]
      try go_simp
      go_at_call 21
      refine (HLB.out _ HB0.out).mono ?_
      rintro e Wb ⟨aq, cq, rfl, hrow, hWb⟩
      have hrowA := hrow.at (by show l.length ≤ _; have := HL2.out; have := HNE.out.2; omega)
      have hs14 := rsame_any Wb _ _ _ hrowA _ _ _ (HPLb.out.below (HB0.out.trans (hWb.mono HB0.out.size)))
      dsimp only at hs14
      rw [decide_eq_true (rfl : l = l)] at hs14
      have HS14 := hdL hs14; clear hs14 hrowA hrow
      have HBb := hdL (HB0.out.trans (hWb.mono HB0.out.size)); clear hWb
      try go_simp
      refine hK.out _ _ (owe_all (HA.out _ HBb.out)) ?_
      clear hK K
      try simp only [Act.put, sqZ]
      refine UpV.one 4 (by kernel_rfl) rfl ?_
      intro K hK
      try simp only [sqG]
      try go_simp
      go_at_call 33
      refine HS14.out.mono ?_
      rintro e Wd ⟨rfl, hWd⟩
      have HBd := hdL (HBb.out.trans (hWd.mono HBb.out.size)); clear hWd
      try go_simp
      refine hK.out _ _ (owe_all (HA.out _ HBd.out)) ?_
      clear hK K
      try simp only [Act.put, sqZ]
      have G4d := hdL ((HBd.out.block _ (loh G4b.out)).trans G4b.out); have HDd := hdL ((HBd.out.block _ (loh HDb.out)).trans HDb.out); have HD2d := hdL ((HBd.out.block _ (loh HD2.out)).trans HD2.out); have HBWd := hdL (HBWb.out.trans (HBd.out.mono HBWb.out.size))
      have z0 := cOh G4d.out 0
      have zf := foh G4d.out
      refine UpV.one 5 (by kernel_rfl) rfl ?_
      intro K hK
      try simp only [sqG]
      try go_simp
      refine hK.out _ _ (fun q hq h => ?_) ?_
      ·obtain rfl := mSg.1 hq; dsimp only at h; exact absurd h (by decide)
      clear hK K
      try simp only [Act.put, sqZ]
      refine UpV.done (by kernel_rfl) ?_
      refine NoP.go ?_
      go_wp2_with fail
      have h4D : b4 < D2 ∧ D ≠ D2 ∧ b4 ≠ D := by
       refine ⟨by have := HNB.out.1; have := HDN.out; omega, by have := HNB.out.2.2.1; have := HDN.out; omega, ?_⟩
       intro e; have h1 := G4d.out; rw [e, HDd.out] at h1; cases h1
      have hs2 : (Wd.setCell ⟨b4, 0, none⟩ (.bool true)).heap[D2]? = some (.deferred (some [])) := (bHs _ _ _ _ (by simp; omega)).trans HD2d.out
      have hs1 : ((Wd.setCell ⟨b4, 0, none⟩ (.bool true)).putObj D2 (.deferred none)).heap[D]? = some (.deferred (some [])) := (World.putObj_heap_other (by omega)).trans ((bHs _ _ _ _ (by simp; omega)).trans HDd.out)
      have k1 : (((Wd.setCell ⟨b4, 0, none⟩ (.bool true)).putObj D2 (.deferred none)).putObj D (.deferred none)).cell? ⟨b4, 0, none⟩ = some (.bool true) := (World.cell?_of_block (World.putObj_heap_other (by simp; omega))).trans ((World.cell?_of_block (World.putObj_heap_other (by simp; omega))).trans (one_cellB (.bool true) G4d.out))
      refine marks_ret2 (v := .bool true) rfl hs2 hs1 (by simp [results, Tryz.results6, go_sem, k1]) ⟨rfl, ?_⟩
      have f2 := HBWd.out.setCell (p := ⟨b4, 0, none⟩) HSZ.out.1 (.bool true)
      have f3 := f2.grown (grownBy_putObj' _ D2 (.deferred none)) f2.size (fun k e => by have := HNB.out.2.2.2.2; have := HDN.out; obtain rfl : D2 = k := sIj e; omega)
      have f4 := f3.grown (grownBy_putObj' _ D (.deferred none)) f3.size (fun k e => by have := HND.out; have := HBWC2.out; obtain rfl : D = k := sIj e; omega)
      first | exact f4 | (rw [hb2e] at f4; exact f4)
end Go.Proofs.YtaagkndhgicifaaGreat
