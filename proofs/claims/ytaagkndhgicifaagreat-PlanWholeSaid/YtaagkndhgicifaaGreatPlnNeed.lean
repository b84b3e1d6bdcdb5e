/- DERIVED. plan.Needs and plan.Make, walked. (Printed by plnneedgen.py.) -/
import Derived.Test.YtaagkndhgicifaaGreatPlnCmp
import Derived.Test.YtaagkndhgicifaaGreatPlnMem
namespace Go.Proofs.YtaagkndhgicifaaGreat
set_option maxHeartbeats 32000000
open Go.RowKit Go.Shelf
set_option linter.unusedVariables false
set_option linter.unusedSimpArgs false
set_option maxRecDepth 100000
theorem nedf_any (w : World) (x : EV) (B : Nat) (q : Pk) (hB : w.heap[B]? = some (.cells (pkL q).toArray 41 (0, 0))) :
  Calls Tryz.prog 72 #[.agg (entL x).toArray, .pointer (some ⟨B, 0, none⟩)] w (fun e w' => e = .returned (.bool (decide (x.1.pkg = q))) ∧ Below w.heap.size w w') := by
 obtain ⟨S, T, p1, p2, p3, sg, t1, t2, t3, n, hx⟩ := ent_let x.1
 obtain ⟨y, a, c⟩ := x
 dsimp only at hx ⊢
 rw [hx.arr]
 obtain ⟨U, -, hU, -, -⟩ := strV_is q.1
 have heq := eqPk2 y.pkg q hx.s hU
 rw [← hx.p.1, ← hx.p.2.1, ← hx.p.2.2] at heq
 obtain ⟨u1, hu1⟩ : ∃ z, z = q.2.1 := ⟨_, rfl⟩
 obtain ⟨u2, hu2⟩ : ∃ z, z = q.2.2.1 := ⟨_, rfl⟩
 obtain ⟨u3, hu3⟩ : ∃ z, z = q.2.2.2 := ⟨_, rfl⟩
 unfold pkL at hB
 rw [hU, ← hu1, ← hu2, ← hu3] at hB
 rw [← hu1, ← hu2, ← hu3] at heq
 obtain ⟨R, hR⟩ : ∃ R, R = decide (y.pkg = q) := ⟨_, rfl⟩
 rw [← hR] at heq ⊢
 obtain ⟨w1, hw1, hb1, hx1, _, _⟩ := aBk w #[.string S, .int .i64 p1, .int .i64 p2, .int .i64 p3, .int .i64 sg, .string T, .int .i64 t1, .int .i64 t2, .int .i64 t3, .slice a n c] 45
 have hB1 := (hb1.block _ (loh hB)).trans hB
 obtain ⟨g0, g1, g2, g3⟩ := cells4 hx1
 obtain ⟨e0, e1, e2, e3⟩ := cells4 hB1
 have HB := hdL hb1
 clear hx hU hu1 hu2 hu3 hR hB hB1 hb1 hx1
 go_enter Tryz.func72, Tryz.ntmps72
 go_wp2
 go_ret
 exact ⟨rfl, HB.out⟩
theorem nidx_any (w : World) (Z : Zone) (v : Value) (es : List EV) (h : EntsAt Z w v es) (B : Nat) (q : Pk) (hB : w.heap[B]? = some (.cells (pkL q).toArray 41 (0, 0))) :
  Calls Tryz.prog 64 #[v, .func (.func 72) #[] #[.pointer (some ⟨B, 0, none⟩)]] w (fun e w' => (∃ i : Int, e = .returned (.int .i64 i) ∧ ((i = -1 ∧ (es.map Prod.fst).find? (fun x => decide (x.pkg = q)) = none) ∨ ∃ k x, i = ((k : Nat) : Int) ∧ es[k]? = some x ∧ (es.map Prod.fst).find? (fun x => decide (x.pkg = q)) = some x.1)) ∧ Below w.heap.size w w') := by
 obtain ⟨a, c, rfl, hb, -⟩ := id h
 obtain ⟨n, hnn⟩ : ∃ n, n = es.length := ⟨_, rfl⟩
 rw [← hnn] at h hb ⊢
 have hnl : n ≤ 8796093022208 := hb.max
 have HN := hdL hnn; have HC := hdL h; have HQ := hdL hB
 clear hnn h hb hB
 go_enter Tryz.func64, Tryz.ntmps64
 go_wp2_with fail
 go_loopw [8] (fun x wr => ∃ k : Nat, x = .int .i64 k ∧ k ≤ n ∧ Hid ((es.map Prod.fst).find? (fun x => decide (x.pkg = q)) = ((es.map Prod.fst).drop k).find? (fun x => decide (x.pkg = q))) ∧ Hid (Below w.heap.size w wr)) (fun x _ => n - (intOf x).toNat)
 case atStart => exact ⟨0, rfl, Nat.zero_le _, rfl, Below.refl _ _⟩
 case round =>
  obtain ⟨k, rfl, hkn, hno, hbw⟩ := hrel
  by_cases hlt : k < n
  ·obtain ⟨x, hp⟩ : ∃ x, es[k]? = some x := ⟨_, gEg (by rw [← HN.out]; exact hlt)⟩
   obtain ⟨b, o, S', T', rfl, hS', hT', -, c0, c1, c2, c3, c4, c5, c6, c7, c8, c9⟩ := (HC.out.below hbw.out).cells hp
   have hcl := nedf_any wr x B q ((hbw.out.block _ (loh HQ.out)).trans HQ.out)
   have hp2 : (es.map Prod.fst)[k]? = some x.1 := by rw [List.getElem?_map, hp]; rfl
   have hd : (es.map Prod.fst).drop k = x.1 :: (es.map Prod.fst).drop (k + 1) := by
    rw [List.drop_eq_getElem_cons (gEs.1 hp2).1, (gEs.1 hp2).2]
   have hno' := hno.out
   rw [hd, List.find?_cons] at hno'
   obtain ⟨S, T, p1, p2, p3, sg, t1, t2, t3, n9, hl⟩ := ent_let x.1
   obtain rfl : S' = S := by rw [hl.s] at hS'; injection hS' with hS'; exact hS'.symm
   obtain rfl : T' = T := by rw [hl.t] at hT'; injection hT' with hT'; exact hT'.symm
   rw [← hl.p.1] at c1; rw [← hl.p.2.1] at c2; rw [← hl.p.2.2] at c3; rw [← hl.g] at c4; rw [← hl.c.1] at c6; rw [← hl.c.2.1] at c7; rw [← hl.c.2.2] at c8; rw [← hl.n] at c9
   have harr := hl.arr x.2.1 x.2.2
   have hxe : (x.1, (x.2.1, x.2.2)) = x := rfl
   rw [hxe] at harr
   rw [harr] at hcl
   obtain ⟨ax, hax⟩ : ∃ y, y = x.2.1 := ⟨_, rfl⟩
   obtain ⟨cx, hcx⟩ : ∃ y, y = x.2.2 := ⟨_, rfl⟩
   rw [← hax, ← hcx] at c9 hcl
   have HP := hdL hp
   clear hp hp2 hd hS' hT' hl harr hxe hax hcx
   cases hq : decide (x.1.pkg = q)
   ·rw [hq] at hcl hno'
    have HCL := hdL hcl; have HNO := hdL hno'
    clear hcl hq hno'
    go_wp2_with fail
    refine HCL.out.mono ?_
    rintro e w3 ⟨rfl, h3⟩
    have H3 := hdL (hbw.out.trans (h3.mono hbw.out.size))
    clear h3
    go_wp2_with fail
    go_roundw
    case rel => exact ⟨k + 1, by go_num, hlt, HNO, H3⟩
    case measure => simp [intOf]; omega
   ·rw [hq] at hcl hno'
    have HCL := hdL hcl; have HNO := hdL hno'
    clear hcl hq hno'
    go_wp2_with fail
    refine HCL.out.mono ?_
    rintro e w3 ⟨rfl, h3⟩
    have H3 := hdL (hbw.out.trans (h3.mono hbw.out.size))
    clear h3
    go_wp2_with fail
    go_ret
    exact ⟨⟨k, rfl, .inr ⟨k, _, rfl, HP.out, HNO.out⟩⟩, H3.out⟩
  ·obtain rfl : k = n := by omega
   have HY := hdL (show (es.map Prod.fst).find? (fun x => decide (x.pkg = q)) = none by
    rw [hno.out, List.drop_of_length_le (by rw [List.length_map, ← HN.out]; omega)]; rfl)
   go_wp2_with fail
   go_ret
   exact ⟨⟨-1, rfl, .inl ⟨rfl, HY.out⟩⟩, hbw.out⟩
theorem ncont_any (w : World) (Z : Zone) (v : Value) (es : List EV) (h : EntsAt Z w v es) (B : Nat) (q : Pk) (hB : w.heap[B]? = some (.cells (pkL q).toArray 41 (0, 0))) :
  Calls Tryz.prog 71 #[v, .func (.func 72) #[] #[.pointer (some ⟨B, 0, none⟩)]] w (fun e w' => e = .returned (.bool (decide (q ∈ (es.map Prod.fst).map Ent.pkg))) ∧ Below w.heap.size w w') := by
 have hi := nidx_any w Z v es h B q hB
 obtain ⟨R, hR⟩ : ∃ R, R = decide (q ∈ (es.map Prod.fst).map Ent.pkg) := ⟨_, rfl⟩
 rw [← hR]
 have HI := hdL hi; have HR := hdL hR
 clear hi hR h hB
 go_enter Tryz.func71, Tryz.ntmps71
 go_wp2_with fail
 refine HI.out.mono ?_
 rintro e w' ⟨⟨i, rfl, hi⟩, hb⟩
 have HB := hdL hb; clear hb
 rcases hi with ⟨rfl, hf⟩ | ⟨k, x, rfl, hk, hf⟩
 ·have HY := hdL (show R = false by
   rw [HR.out]
   refine decide_eq_false (fun hm => ?_)
   obtain ⟨x, hx, hxp⟩ := List.mem_map.1 hm
   have := List.find?_eq_none.1 hf x hx
   simp at this
   exact this hxp)
  clear hf
  go_wp2_with fail
  go_ret
  exact ⟨by (rw [HY.out]; rfl), HB.out⟩
 ·have HY := hdL (show R = true by
   rw [HR.out]
   exact decide_eq_true (List.mem_map.2 ⟨x.1, List.mem_of_find?_eq_some hf, by simpa using List.find?_some hf⟩))
  have hge : (0 : Int) ≤ (k : Int) := by omega
  clear hf hk
  go_wp2_with fail
  go_ret
  exact ⟨by (rw [HY.out]; first | rfl | simp), HB.out⟩
def NeedP (L : List Ent) (p : Pk) (w : World) (e : Ending) (w' : World) : Prop := Below w.heap.size w w' ∧ ((p ∉ L.map Ent.pkg ∧ e = .returned (.tuple #[.slice none 0 0, .bool false])) ∨
 (p ∈ L.map Ent.pkg ∧ ∃ (a : Option Addr) (n c : Nat) (os : List EV), e = .returned (.tuple #[.slice a n c, .bool true]) ∧ OwnE w.heap.size w' a n c os ∧ os.map Prod.fst = needT L p))
theorem needs_any (w : World) (Z : Zone) (Tb : Nat) (es : List EV) (l : List Pk) (m : Int) (h : StgAt Z w Tb es l m) (hg : GoodL (es.map Prod.fst)) (hle : es.length ≤ 1000) (p : Pk) :
  Calls Tryz.prog 40 #[.pointer (some ⟨Tb, 0, none⟩), .agg #[strV p.1, .int .i64 p.2.1, .int .i64 p.2.2.1, .int .i64 p.2.2.2]] w (NeedP (es.map Prod.fst) p w) := by
 obtain ⟨L, hL⟩ : ∃ L, L = es.map Prod.fst := ⟨_, rfl⟩
 have hfl : ∀ x ∈ L, x.choice.2.length ≤ 100000 := fun x hx => by rw [hL] at hx; obtain ⟨y, hy, rfl⟩ := List.mem_map.1 hx; exact h.few.2.2 y hy
 have hll : L.length ≤ 1000 := by rw [hL, List.length_map]; exact hle
 have hget := fun W (hW : Below w.heap.size w W) (q : Pk) => sget_any W Z Tb es l m (h.below hW) q
 rw [← hL] at hg hget ⊢
 obtain ⟨N0, hN0⟩ : ∃ n, n = w.heap.size := ⟨_, rfl⟩
 obtain ⟨P, -, hP, -, -⟩ := strV_is p.1
 obtain ⟨v1, hv1⟩ : ∃ z, z = p.2.1 := ⟨_, rfl⟩
 obtain ⟨v2, hv2⟩ : ∃ z, z = p.2.2.1 := ⟨_, rfl⟩
 obtain ⟨v3, hv3⟩ : ∃ z, z = p.2.2.2 := ⟨_, rfl⟩
 rw [hP, ← hv1, ← hv2, ← hv3]
 obtain ⟨w1, hw1, hb1, hx1, y1, y2⟩ := aBk w #[.string P, .int .i64 v1, .int .i64 v2, .int .i64 v3] 41
 have hg1 := hget w1 hb1 p
 rw [hP, ← hv1, ← hv2, ← hv3] at hg1
 have HG1 := hdL hg1; have HGET := hdL hget; have HGD := hdL hg; have HFL := hdL hfl; have HLL := hdL hll; have HB1 := hdL hb1; have HN0 := hdL hN0; have HPS := hdL (And.intro hP (And.intro hv1 (And.intro hv2 hv3)))
 obtain ⟨e0, e1, e2, e3⟩ := cells4 hx1
 clear h hL hg hget hg1 hfl hll hle hb1 hx1 hN0 hP hv1 hv2 hv3 y1 y2
 go_enter Tryz.func40, Tryz.ntmps40
 go_wp2_with fail
 refine HG1.out.mono ?_
 intro e w2 hgp
 obtain ⟨h2, ag, cg, he, hrow⟩ := hgp
 have HB2 := hdL (HB1.out.trans (h2.mono HB1.out.size)); clear h2 e0 e1 e2 e3
 by_cases hpm : p ∈ L.map Ent.pkg
 ·obtain ⟨x0, hx0, hxp, hge⟩ := getE_yes hpm
  rw [hge] at he hrow
  dsimp only at he hrow
  obtain ⟨S, T, p1, p2, p3, sg, t1, t2, t3, n9, hl⟩ := ent_let x0
  rw [hl.arr] at he
  subst he
  obtain ⟨w3, hw3, hb3, hx3, y1, y2⟩ := aBk w2 #[.string S, .int .i64 p1, .int .i64 p2, .int .i64 p3, .int .i64 sg, .string T, .int .i64 t1, .int .i64 t2, .int .i64 t3, .slice ag n9 cg] 45
  obtain ⟨b3, hb3e⟩ : ∃ b, w2.heap.size = b := ⟨_, rfl⟩
  rw [hb3e] at hx3
  obtain ⟨w4, hw4, hb4, hx4, y3, y4⟩ := aBk w3 #[.string S, .int .i64 p1, .int .i64 p2, .int .i64 p3, .int .i64 sg, .string T, .int .i64 t1, .int .i64 t2, .int .i64 t3, .slice ag n9 cg] 45
  obtain ⟨b4, hb4e⟩ : ∃ b, w3.heap.size = b := ⟨_, rfl⟩
  rw [hb4e] at hx4
  have hx4' := hx4
  rw [← hl.arr] at hx4'
  have hbs : N0 ≤ b4 := by have h1 := HB2.out.size; have h2 := hb3.size; have h3 := HN0.out; omega
  have hrow4 : PRow N0 w4 (withR (x0, (ag, cg))) := (KT.below hb4).owns ((KT.below hb3).owns (ownsC_mono hrow (by rw [HN0.out]; exact HB1.out.size)))
  have hown : OwnE N0 w4 (some ⟨b4, 0, none⟩) 1 1 [(x0, (ag, cg))] := ⟨rfl, by rw [List.flatMap_singleton]; exact box_ent hbs hx4', fun y hy => by rw [mSg.1 hy]; exact hrow4, fun y hy => by rw [mSg.1 hy]; exact HFL.out _ hx0⟩
  have HOWN := hdL hown; have HWK := hdL (Walk.start hx0 hxp : Walk L p 0 [x0]); have HPM := hdL hpm; have HB4 := hdL (HB2.out.trans ((hb3.trans (hb4.mono hb3.size)).mono HB2.out.size)); have HN4 := hdL (show N0 ≤ w4.heap.size from by have := hb4.size; omega)
  obtain ⟨q0, q1, q2, q3, q4, q5, q6, q7, q8, q9⟩ := cells10 hx3
  clear hpm hge hrow hl hx0 hxp hb3 hx3 hb4 hx4 hx4' hbs hrow4 hown y1 y2 y3 y4
  obtain ⟨iP, hiP, hzP0, hzP1, hzP2⟩ := info_parts infoPkg
  obtain ⟨iE, hiE, hzE0, hzE1, hzE2⟩ := info_parts infoEnt
  have HI := hdL (And.intro hiP (And.intro hzP0 (And.intro hzP1 hzP2))); have HIE := hdL (And.intro hiE (And.intro hzE0 (And.intro hzE1 hzE2)))
  clear hiP hzP0 hzP1 hzP2 hiE hzE0 hzE1 hzE2
  go_wp2_with fail
  try rw [hb4e]
  clear q0 q1 q2 q3 q4 q5 q6 q7 q8 q9
  go_loopw [8, 9] (fun o i wr => ∃ (j : Nat) (os : List EV) (a : Option Addr) (n c : Nat), o = .slice a n c ∧ i = .int .i64 j ∧ j ≤ n ∧ n ≤ 1000 ∧ Hid (Walk L p j (os.map Prod.fst)) ∧ Hid (OwnE N0 wr a n c os) ∧ Hid (Below N0 w4 wr)) (fun _ i _ => 1001 - (intOf i).toNat)
  case atStart => exact ⟨0, [(x0, (ag, cg))], _, 1, 1, rfl, rfl, Nat.zero_le _, by omega, HWK, HOWN, hdL (Below.refl _ _)⟩
  case round =>
   obtain ⟨j, os, a, n, c, rfl, rfl, hj, hn, hwk, how, hbw⟩ := hrel
   obtain ⟨W0, hW0⟩ : ∃ W, W = wr := ⟨_, rfl⟩
   subst hW0
   have HBW := hdL (show Below w.heap.size w W0 from HB4.out.trans (by rw [← HN0.out]; exact hbw.out))
   have HNW := hdL (show N0 ≤ W0.heap.size from Nat.le_trans HN4.out hbw.out.size)
   by_cases hlt : j < n
   ·obtain ⟨x, hx⟩ : ∃ x, os[j]? = some x := ⟨_, gEg (by rw [← how.out.1]; exact hlt)⟩
    have hents := how.out.ents (by omega)
    obtain ⟨b, o, S', T', rfl, hS', hT', hwx, c0, c1, c2, c3, c4, c5, c6, c7, c8, c9⟩ := hents.cells hx
    obtain ⟨S, T, p1, p2, p3, sg, t1, t2, t3, n9, hl⟩ := ent_let x.1
    obtain rfl : S' = S := by rw [hl.s] at hS'; injection hS' with hS'; exact hS'.symm
    obtain rfl : T' = T := by rw [hl.t] at hT'; injection hT' with hT'; exact hT'.symm
    rw [← hl.p.1] at c1; rw [← hl.p.2.1] at c2; rw [← hl.p.2.2] at c3; rw [← hl.g] at c4; rw [← hl.c.1] at c6; rw [← hl.c.2.1] at c7; rw [← hl.c.2.2] at c8; rw [← hl.n] at c9
    obtain ⟨ax, hax⟩ : ∃ y, y = x.2.1 := ⟨_, rfl⟩
    obtain ⟨cx, hcx⟩ : ∃ y, y = x.2.2 := ⟨_, rfl⟩
    rw [← hax, ← hcx] at c9
    have hxL : x.1 ∈ L := (hwk.out.rch x.1 (List.mem_map.2 ⟨x, List.mem_of_getElem? hx, rfl⟩)).mem
    have hxm : (os.map Prod.fst)[j]? = some x.1 := by rw [List.getElem?_map, hx]; rfl
    have hus := fun q => @usesB_iff x.1 q
    rw [← hl.g] at hus
    have hn9 : n9 ≤ 100000 := by rw [hl.n]; exact HFL.out _ hxL
    have HXL := hdL hxL; have HXM := hdL hxm; have HUS := hdL hus
    clear hxL hxm hus
    by_cases hz : sg = 0
    ·subst hz
     have HNX := hdL (hwk.out.next HXM.out (fun q hq => absurd rfl ((HUS.out q).1 hq).1))
     clear hx hents hwx hS' hT' hl hax hcx
     go_wp2_with fail
     go_roundw
     case rel => exact ⟨j + 1, os, _, n, c, rfl, by go_num, hlt, hn, HNX, how, hbw⟩
     case measure => first | (simp [intOf]; done) | (simp [intOf]; omega)
    ·have hsz : ((sg : Int) == 0) = false := by simp; exact hz
     have hrx := how.out.2.2.1 x (List.mem_of_getElem? hx)
     have hsrcF := fun W (hW : Below W0.heap.size W0 W) => (PRow.at ((KT.below hW).owns hrx : PRow N0 W (withR x)) (by show x.1.choice.2.length ≤ _; rw [← hl.n]; omega)).src
     dsimp only [withR, withV] at hsrcF
     simp only [← hl.n, ← hax, ← hcx] at hsrcF
     obtain ⟨us, hus⟩ : ∃ us, us = x.1.choice.1 :: x.1.choice.2 := ⟨_, rfl⟩
     have hpk : (pkL x.1.choice.1).toArray = #[.string T', .int .i64 t1, .int .i64 t2, .int .i64 t3] := by unfold pkL; rw [hl.t, ← hl.c.1, ← hl.c.2.1, ← hl.c.2.2]
     have hul : us.length = 1 + n9 := by rw [hus, List.length_cons, hl.n]; omega
     have huse : ∀ q, q ∈ us ↔ usesB x.1 q = true := fun q => by rw [HUS.out q, hus, List.mem_cons]; exact ⟨fun h => ⟨hz, h.elim (fun h => .inl h.symm) .inr⟩, fun h => h.2.elim (fun h => .inl h.symm) .inr⟩
     have HSRC := hdL (fun W (hW : Below W0.heap.size W0 W) => (hsrcF W hW)); have HUE := hdL hus; have HPK := hdL hpk; have HUL := hdL hul; have HUSE := hdL huse; have HZ := hdL hz
     clear hx hents hwx hS' hT' hl hax hcx hrx hsrcF hus hpk hul huse hz
     have hA : ∀ W, Below W0.heap.size W0 W → ∀ q ∈ ([(6, (fun W : World => W.cell? ⟨b, o + j * 10 + 5, none⟩ = some (.string T') ∧ W.cell? ⟨b, o + j * 10 + 6, none⟩ = some (.int .i64 t1) ∧ W.cell? ⟨b, o + j * 10 + 7, none⟩ = some (.int .i64 t2) ∧ W.cell? ⟨b, o + j * 10 + 8, none⟩ = some (.int .i64 t3))), (13, (fun W : World => W.cell? ⟨b, o + j * 10 + 9, none⟩ = some (.slice ax n9 cx)))] : List (Nat × (World → Prop))), q.2 W := by
      intro W hW q hq
      rcases List.mem_cons.1 hq with rfl | hq
      ·exact ⟨bkp hW _ _ c5, bkp hW _ _ c6, bkp hW _ _ c7, bkp hW _ _ c8⟩
      obtain rfl := mSg.1 hq
      exact bkp hW _ _ c9
     have HA := hdL hA; clear hA
     have HW0 := hdL ((Below.refl W0.heap.size W0).drew)
     go_upto_region 9 with fail
     clear c0 c1 c2 c3 c4 c5 c6 c7 c8 c9
     refine UpV.start [(6, (fun W : World => W.cell? ⟨b, o + j * 10 + 5, none⟩ = some (.string T') ∧ W.cell? ⟨b, o + j * 10 + 6, none⟩ = some (.int .i64 t1) ∧ W.cell? ⟨b, o + j * 10 + 7, none⟩ = some (.int .i64 t2) ∧ W.cell? ⟨b, o + j * 10 + 8, none⟩ = some (.int .i64 t3))), (13, (fun W : World => W.cell? ⟨b, o + j * 10 + 9, none⟩ = some (.slice ax n9 cx)))] (by kernel_rfl) ?_
     refine UpV.tp 0 (v := .slice (some ⟨b, o, none⟩) n c) rfl (Or.inl ⟨by rfl, ?_⟩) (owe_all (HA.out _ HW0.out)) ?_
     ·intro w hSw; first | rfl | (try simp only [sqG]; go_simp; done) | (try simp only [sqG]; go_simp; simp)
     try simp only [Act.put, sqZ]
     refine UpV.tp 1 (v := .int .i64 j) rfl (Or.inl ⟨by rfl, ?_⟩) (owe_all (HA.out _ HW0.out)) ?_
     ·intro w hSw; first | rfl | (try simp only [sqG]; go_simp; done) | (try simp only [sqG]; go_simp; simp)
     try simp only [Act.put, sqZ]
     refine UpV.tp 2 (v := .pointer (some ⟨b, o + j * 10, none⟩)) rfl (Or.inl ⟨by rfl, ?_⟩) (owe_all (HA.out _ HW0.out)) ?_
     ·intro w hSw; first | rfl | (try simp only [sqG]; go_simp; done) | (try simp only [sqG]; go_simp; intro h; exact absurd (h (by omega)) (by omega)) | (try simp only [sqG]; go_simp; simp; omega)
     try simp only [Act.put, sqZ]
     refine UpV.tp 3 (v := .pointer (some ⟨b, o + j * 10 + 5, none⟩)) rfl (Or.inl ⟨by rfl, ?_⟩) (owe_all (HA.out _ HW0.out)) ?_
     ·intro w hSw; first | rfl | (try simp only [sqG]; go_simp; done) | (try simp only [sqG]; go_simp; simp)
     try simp only [Act.put, sqZ]
     refine UpV.tp 4 (v := .pointer (some ⟨b, o + j * 10 + 5, none⟩)) rfl (Or.inl ⟨by rfl, ?_⟩) (owe_all (HA.out _ HW0.out)) ?_
     ·intro w hSw; first | rfl | (try simp only [sqG]; go_simp; done) | (try simp only [sqG]; go_simp; simp)
     try simp only [Act.put, sqZ]
     refine UpV.tk 5 6 (v := .agg #[.string T', .int .i64 t1, .int .i64 t2, .int .i64 t3]) rfl (mCs ..) (Or.inl ⟨by rfl, ?_⟩) (owe_all (HA.out _ HW0.out)) ?_
     ·intro w hSw; obtain ⟨s0, s1, s2, s3⟩ := hSw; go_simp
     try simp only [Act.put, sqZ]
     refine UpV.tp 7 (v := .slice (some ⟨b, o, none⟩) n c) rfl (Or.inl ⟨by rfl, ?_⟩) (owe_all (HA.out _ HW0.out)) ?_
     ·intro w hSw; first | rfl | (try simp only [sqG]; go_simp; done) | (try simp only [sqG]; go_simp; simp)
     try simp only [Act.put, sqZ]
     refine UpV.tp 8 (v := .int .i64 j) rfl (Or.inl ⟨by rfl, ?_⟩) (owe_all (HA.out _ HW0.out)) ?_
     ·intro w hSw; first | rfl | (try simp only [sqG]; go_simp; done) | (try simp only [sqG]; go_simp; simp)
     try simp only [Act.put, sqZ]
     refine UpV.tp 9 (v := .pointer (some ⟨b, o + j * 10, none⟩)) rfl (Or.inl ⟨by rfl, ?_⟩) (owe_all (HA.out _ HW0.out)) ?_
     ·intro w hSw; first | rfl | (try simp only [sqG]; go_simp; done) | (try simp only [sqG]; go_simp; intro h; exact absurd (h (by omega)) (by omega)) | (try simp only [sqG]; go_simp; simp; omega)
     try simp only [Act.put, sqZ]
     refine UpV.tp 10 (v := .pointer (some ⟨b, o + j * 10 + 5, none⟩)) rfl (Or.inl ⟨by rfl, ?_⟩) (owe_all (HA.out _ HW0.out)) ?_
     ·intro w hSw; first | rfl | (try simp only [sqG]; go_simp; done) | (try simp only [sqG]; go_simp; simp)
     try simp only [Act.put, sqZ]
     refine UpV.tp 11 (v := .pointer (some ⟨b, o + j * 10 + 9, none⟩)) rfl (Or.inl ⟨by rfl, ?_⟩) (owe_all (HA.out _ HW0.out)) ?_
     ·intro w hSw; first | rfl | (try simp only [sqG]; go_simp; done) | (try simp only [sqG]; go_simp; simp)
     try simp only [Act.put, sqZ]
     refine UpV.tk 12 13 (v := .slice ax n9 cx) rfl (mCm _ (mCs ..)) (Or.inl ⟨by rfl, ?_⟩) (owe_all (HA.out _ HW0.out)) ?_
     ·intro w hSw; have s0 := hSw; go_simp
     try simp only [Act.put, sqZ]
     refine UpV.tp 15 (v := .int .i64 0) rfl (Or.inl ⟨by rfl, ?_⟩) (owe_all (HA.out _ HW0.out)) ?_
     ·intro w hSw; first | rfl | (try simp only [sqG]; go_simp; done) | (try simp only [sqG]; go_simp; simp)
     try simp only [Act.put, sqZ]
     obtain ⟨Wa, hWa, hba, hxa, z1, z2⟩ := aBk W0.drew #[.string T', .int .i64 t1, .int .i64 t2, .int .i64 t3] 41
     obtain ⟨bt, hbt⟩ : ∃ b, W0.heap.size = b := ⟨_, rfl⟩
     change Wa.heap[W0.heap.size]? = _ at hxa
     rw [hbt] at hxa
     have hba0 := HW0.out.trans (hba.mono HW0.out.size)
     have HBa := hdL hba0
     have hbox : PRow N0 Wa (.slice (some ⟨bt, 0, none⟩) 1 1, [x.1.choice.1]) := box_row (by have := HNW.out; omega) (by rw [HPK.out]; exact hxa)
     unfold PRow at hbox
     dsimp only at hbox
     rw [lSg, List.flatMap_singleton] at hbox
     have HBOX := hdL hbox
     clear hba hxa hba0 hbox z1 z2
     refine UpV.one 6 (by kernel_rfl) rfl ?_
     intro K hK
     try simp only [sqG]
     try go_simp
     try rw [hWa]
     try rw [hbt]
     refine hK.out _ _ (owe_all (HA.out _ HBa.out)) ?_
     clear hK K
     try simp only [Act.put, sqZ]
     have hsra := HSRC.out Wa HBa.out
     refine UpV.one 13 (by kernel_rfl) rfl ?_
     intro K hK
     refine step_append_c rfl (.tmp 42) (.tmp 48) 22 22 rfl N0 41 iP _ 4 40 Tryz.underlying22 HI.out.1 HI.out.2.1 HI.out.2.2.1 HI.out.2.2.2 rfl (.slice (some ⟨bt, 0, none⟩) 1 1) (by first | rfl | (simp [Act.eval]; done) | (simp [Act.eval, Act.put]; done)) 1 _ HBOX.out (.slice ax n9 cx) (by first | rfl | (simp [Act.eval]; done) | (simp [Act.eval, Act.put]; done)) n9 _ hsra (by unfold maxLen; omega) (by omega) (Nat.le_trans HNW.out HBa.out.size) ?_
     intro au cu Wb hob hgb hnb
     have hbb : Below W0.heap.size W0 Wb := HBa.out.grown hgb HBa.out.size (fun g hg => by obtain rfl : bt = g := (by simpa [Value.ownBlock] using hg); omega)
     have hus : PRow N0 Wb (.slice au (1 + n9) cu, us) := by
      unfold PRow
      dsimp only
      rw [HUL.out, HUE.out, List.flatMap_cons]
      exact hob
     have HBb := hdL hbb; have HUR := hdL hus; clear hsra hob hgb hnb hbb hus
     refine hK.out _ _ (owe_all (HA.out _ HBb.out)) ?_
     clear hK K
     try simp only [Act.put, sqZ]
     refine UpV.tp 14 (v := .int .i64 ((1 + n9 : Nat) : Int)) rfl (Or.inl ⟨by rfl, ?_⟩) (owe_all (HA.out _ HBb.out)) ?_
     ·intro w hSw; first | rfl | (try simp only [sqG]; go_simp; done) | (try simp only [sqG]; go_simp; simp)
     try simp only [Act.put, sqZ]
     refine UpV.done (by kernel_rfl) ?_
     obtain ⟨nu, hnu⟩ : ∃ z, z = 1 + n9 := ⟨_, rfl⟩
     rw [← hnu]
     have HUR2 := hdL (show PRow N0 Wb (.slice au nu cu, us) by rw [hnu]; exact HUR.out); have HUL2 := hdL (show us.length = nu by rw [hnu]; exact HUL.out)
     have hnu2 : nu ≤ 100001 := by omega
     clear hnu hWa hbt
     have HOWb := hdL (how.out.below HBb.out); have HBWb := hdL (hbw.out.trans (HBb.out.mono HNW.out)); have HNb := hdL (Nat.le_trans HNW.out HBb.out.size)
     go_wp2_with fail
     go_loopw [8, 51] (fun v i wr => ∃ (k : Nat) (os2 : List EV) (a2 : Option Addr) (n2 c2 : Nat), v = .slice a2 n2 c2 ∧ i = .int .i64 k ∧ k ≤ nu ∧ j < n2 ∧ n2 ≤ 1000 ∧ Hid (Walk L p j (os2.map Prod.fst)) ∧ Hid ((os2.map Prod.fst)[j]? = some x.1) ∧ Hid (∀ q ∈ us.take k, q ∈ (os2.map Prod.fst).map Ent.pkg) ∧ Hid (OwnE N0 wr a2 n2 c2 os2) ∧ Hid (PRow N0 wr (.slice au nu cu, us)) ∧ Hid (Below N0 w4 wr)) (fun _ i _ => nu - (intOf i).toNat)
     case atStart => exact ⟨0, os, _, n, c, rfl, rfl, Nat.zero_le _, hlt, hn, hwk, HXM, hdL (fun q hq => by simp at hq), HOWb, HUR2, HBWb⟩
     case round =>
      obtain ⟨k, os2, a2, n2, c2, rfl, rfl, hk, hj2, hn2, hwk2, hx2, htk, how2, hur, hbw2⟩ := hrel
      obtain ⟨V0, hV0⟩ : ∃ W, W = wr := ⟨_, rfl⟩
      subst hV0
      have HBV := hdL (show Below w.heap.size w V0 from HB4.out.trans (by rw [← HN0.out]; exact hbw2.out))
      have HNV := hdL (show N0 ≤ V0.heap.size from Nat.le_trans HN4.out hbw2.out.size)
      by_cases hlt2 : k < nu
      ·obtain ⟨q, hq⟩ : ∃ q, us[k]? = some q := ⟨_, gEg (by rw [HUL2.out]; exact hlt2)⟩
       have hat := PRow.at hur.out (by show us.length ≤ _; rw [HUL2.out]; omega)
       dsimp only at hat
       obtain ⟨bq0, oq0, Q, rfl, hQ, d0, d1, d2, d3⟩ := hat.cells hq
       obtain ⟨u1, hu1⟩ : ∃ z, z = q.2.1 := ⟨_, rfl⟩
       obtain ⟨u2, hu2⟩ : ∃ z, z = q.2.2.1 := ⟨_, rfl⟩
       obtain ⟨u3, hu3⟩ : ∃ z, z = q.2.2.2 := ⟨_, rfl⟩
       rw [← hu1] at d1; rw [← hu2] at d2; rw [← hu3] at d3
       obtain ⟨w5, hw5, hb5, hx5, z1, z2⟩ := aBk V0 #[.string Q, .int .i64 u1, .int .i64 u2, .int .i64 u3] 41
       obtain ⟨bq, hbq⟩ : ∃ b, V0.heap.size = b := ⟨_, rfl⟩
       rw [hbq] at hx5
       have hpq : (pkL q).toArray = #[.string Q, .int .i64 u1, .int .i64 u2, .int .i64 u3] := by unfold pkL; rw [hQ, ← hu1, ← hu2, ← hu3]
       have hx5' := hx5
       rw [← hpq] at hx5'
       have hcn := ncont_any w5 _ _ os2 ((how2.out.below hb5).ents (by omega)) bq q hx5'
       have huq := (HUSE.out q).1 (List.mem_of_getElem? hq)
       have htk2 : us.take (k + 1) = us.take k ++ [q] := by rw [List.take_add_one, hq]; rfl
       have HCN := hdL hcn; have HUQ := hdL huq; have HTK2 := hdL htk2; have HB5 := hdL hb5; have HX5 := hdL hx5; have HQS := hdL (And.intro hQ (And.intro hu1 (And.intro hu2 hu3))); have HOW5 := hdL (how2.out.below hb5); have HUR5 := hdL ((KT.below hb5).owns hur.out)
       clear hq hat hQ hu1 hu2 hu3 hb5 hx5 hx5' hpq hcn huq htk2 z1 z2
       go_wp2_with fail
       try rw [hbq]
       refine HCN.out.mono ?_
       rintro e w6 ⟨rfl, h6⟩
       have HB6 := hdL (HBV.out.trans ((HB5.out.trans (h6.mono HB5.out.size)).mono HBV.out.size)); have HOW6 := hdL (HOW5.out.below h6); have HUR6 := hdL ((KT.below h6).owns HUR5.out); have HBW6 := hdL (hbw2.out.trans ((HB5.out.trans (h6.mono HB5.out.size)).mono HNV.out)); have G6 := hdL ((h6.block _ (loh HX5.out)).trans HX5.out)
       clear h6 d0 d1 d2 d3
       cases hd : decide (q ∈ (os2.map Prod.fst).map Ent.pkg)
       ·have HNQ := hdL (of_decide_eq_false hd); clear hd
        obtain ⟨y0, hy0, hyp, hys⟩ := HGD.out.down x.1 HXL.out q HUQ.out
        have hgq := HGET.out w6 HB6.out q
        rw [HQS.out.1, ← HQS.out.2.1, ← HQS.out.2.2.1, ← HQS.out.2.2.2] at hgq
        have HGQ := hdL hgq; clear hgq
        obtain ⟨d0, d1, d2, d3⟩ := cells4 G6.out
        go_wp2_with fail
        refine HGQ.out.mono ?_
        intro e w7 hgp
        obtain ⟨h7, ay, cy, he, hrow⟩ := hgp
        have hge : getE L q = (y0, true) := by rw [← hyp]; exact getE_mem HGD.out.nod hy0
        rw [hge] at he hrow
        dsimp only at he hrow
        obtain ⟨S2, T2, q1, q2, q3, sh, r1, r2, r3, m9, hm⟩ := ent_let y0
        rw [hm.arr] at he
        subst he
        obtain ⟨w8, hw8, hb8, hx8, z1, z2⟩ := aBk w7 #[.string S2, .int .i64 q1, .int .i64 q2, .int .i64 q3, .int .i64 sh, .string T2, .int .i64 r1, .int .i64 r2, .int .i64 r3, .slice ay m9 cy] 45
        obtain ⟨b8, hb8e⟩ : ∃ b, w7.heap.size = b := ⟨_, rfl⟩
        rw [hb8e] at hx8
        obtain ⟨w9, hw9, hb9, hx9, z3, z4⟩ := aBk w8 #[.string S2, .int .i64 q1, .int .i64 q2, .int .i64 q3, .int .i64 sh, .string T2, .int .i64 r1, .int .i64 r2, .int .i64 r3, .slice ay m9 cy] 45
        obtain ⟨b9, hb9e⟩ : ∃ b, w8.heap.size = b := ⟨_, rfl⟩
        rw [hb9e] at hx9
        have hx9' := hx9
        rw [← hm.arr] at hx9'
        have h79 := h7.trans ((hb8.trans (hb9.mono hb8.size)).mono h7.size)
        have hrow9 : PRow N0 w9 (withR (y0, (ay, cy))) := (KT.below hb9).owns ((KT.below hb8).owns (ownsC_mono hrow (by have h1 := HBW6.out.size; have h2 := HN4.out; omega)))
        have HOW9 := hdL (HOW6.out.below h79); have HUR9 := hdL ((KT.below h79).owns HUR6.out); have HBW9 := hdL (HBW6.out.trans (h79.mono (by have h1 := HBW6.out.size; have h2 := HN4.out; omega))); have HSR := hdL (src_ent hx9'); have HRW := hdL hrow9; have HY := hdL (And.intro hy0 (And.intro hyp (HFL.out y0 hy0)))
        obtain ⟨q0, q1', q2', q3', q4', q5', q6', q7', q8', q9'⟩ := cells10 hx8
        have HN9 := hdL (show N0 ≤ w9.heap.size from by have h1 := HBW9.out.size; have h2 := HN4.out; omega)
        clear hy0 hyp hys hge hrow hm h7 hb8 hx8 hb9 hx9 hx9' h79 hrow9 d0 d1 d2 d3 z1 z2 z3 z4
        go_wp2_with (first | (at_builtin; refine wpList_append_c rfl (.tmp 65) (.tmp 67) 68 68 rfl N0 45 iE _ 10 112 Tryz.underlying68 HIE.out.1 HIE.out.2.1 HIE.out.2.2.1 HIE.out.2.2.2 rfl (.slice a2 n2 c2) rfl n2 _ HOW9.out.2.1 (.slice (some ⟨b9, 0, none⟩) 1 1) rfl 1 _ HSR.out (by unfold maxLen; omega) (by omega) HN9.out ?_; intro a3 c3 wA ho hgr hwx; have HO := hdL ho; have HG := hdL hgr; have HW := hdL hwx; clear ho hgr hwx) | fail)
        have hwk3 := hwk2.out.push (by rw [List.length_map, ← how2.out.1]; exact hj2) (List.mem_of_getElem? hx2.out) (y := y0) (by rw [HY.out.2.1]; exact HUQ.out) HY.out.1 (by rw [HY.out.2.1]; exact HNQ.out)
        have hlen := hwk3.len
        rw [lAp, List.length_map, lSg, ← how2.out.1] at hlen
        have hbound : n2 + 1 ≤ 1000 := Nat.le_trans hlen HLL.out
        have howA := HOW9.out.push (x := (y0, (ay, cy))) HG.out HO.out HRW.out HY.out.2.2
        have hbwA := HOW9.out.bel HG.out HBW9.out HN9.out
        have hurA : PRow N0 wA (_, us) := (kt_ent HOW9.out.2.1 HG.out).owns HUR9.out
        have HWK3 := hdL hwk3; have HOWA := hdL howA; have HBWA := hdL hbwA; have HURA := hdL hurA
        clear hwk3 hlen howA hbwA hurA
        go_roundw
        case rel =>
         refine ⟨k + 1, os2 ++ [(y0, (ay, cy))], a3, n2 + 1, c3, rfl, by go_num, hlt2, by omega, hbound, hdL (by rw [List.map_append]; exact HWK3.out), hdL ?_, hdL ?_, HOWA, HURA, HBWA⟩
         ·rw [List.map_append, List.getElem?_append_left (by rw [List.length_map, ← how2.out.1]; exact hj2)]; exact hx2.out
         ·intro z hz
          rw [List.map_append, List.map_append]
          rw [HTK2.out] at hz
          rcases List.mem_append.1 hz with hz | hz
          ·exact List.mem_append_left _ (htk.out z hz)
          ·rw [mSg.1 hz]; exact List.mem_append_right _ (by simp [HY.out.2.1])
        case measure => first | (simp [intOf]; done) | (simp [intOf]; omega)
       ·have HYQ := hdL (of_decide_eq_true hd); clear hd
        go_wp2_with fail
        go_roundw
        case rel =>
         refine ⟨k + 1, os2, _, n2, c2, rfl, by go_num, hlt2, hj2, hn2, hwk2, hx2, hdL ?_, HOW6, HUR6, HBW6⟩
         intro z hz
         rw [HTK2.out] at hz
         rcases List.mem_append.1 hz with hz | hz
         ·exact htk.out z hz
         ·rw [mSg.1 hz]; exact HYQ.out
        case measure => first | (simp [intOf]; done) | (simp [intOf]; omega)
      ·obtain rfl : k = nu := by omega
       have hnx := hwk2.out.next hx2.out (fun q hq => by
        have h1 := htk.out
        rw [tLe (by rw [HUL2.out]; exact Nat.le_refl _)] at h1
        exact h1 q ((HUSE.out q).2 hq))
       have HNX := hdL hnx; clear hnx
       go_wp2_with fail
       go_roundw
       case rel => exact ⟨j + 1, os2, _, n2, c2, rfl, by go_num, hj2, hn2, HNX, how2, hbw2⟩
       case measure => first | (simp [intOf]; done) | (simp [intOf]; omega)
   ·have hso : ownsC W0 N0 45 10 (.slice a n c) os.length (os.flatMap entL) := by rw [← how.out.1]; exact how.out.2.1
    have hsort := esort_any W0 N0 _ os hso (by rw [← how.out.1]; omega)
    have HSORT := hdL hsort; clear hso hsort
    go_wp2_with fail
    refine HSORT.out.mono ?_
    rintro e w5 ⟨rfl, ds, hp, hsr, hod, hgr⟩
    have howd := how.out.perm hp hod hgr
    have hbd := how.out.bel hgr hbw.out HNW.out
    have hnd : ((ds.map Prod.fst).map Ent.pkg).Nodup := (((hp.map Prod.fst).map Ent.pkg).nodup_iff).2 hwk.out.nod
    have hfin := hwk.out.sorted HGD.out (by rw [List.length_map, ← how.out.1]; omega) (srt_of hsr hnd) (hp.map Prod.fst)
    have HOWD := hdL howd; have HBD := hdL hbd; have HFIN := hdL hfin
    clear hp hsr hod hgr howd hbd hnd hfin
    go_wp2_with fail
    go_ret2
    exact ⟨HB4.out.trans (by rw [← HN0.out]; exact HBD.out), .inr ⟨HPM.out, a, n, c, ds, rfl, by rw [← HN0.out]; exact HOWD.out, HFIN.out⟩⟩
 ·have his := getE_is L p
  rw [decide_eq_false hpm] at his
  rw [his] at he
  obtain ⟨S, T, p1, p2, p3, sg, t1, t2, t3, n9, hl⟩ := ent_let (getE L p).1
  rw [hl.arr] at he
  subst he
  have HPM := hdL hpm; clear hpm his hl hrow
  obtain ⟨w3, hw3, hb3, hx3, z1, z2⟩ := aBk w2 #[.string S, .int .i64 p1, .int .i64 p2, .int .i64 p3, .int .i64 sg, .string T, .int .i64 t1, .int .i64 t2, .int .i64 t3, .slice ag n9 cg] 45
  have HB3 := hdL (HB2.out.trans (hb3.mono HB2.out.size)); clear hb3 hx3 z1 z2
  go_wp2_with fail
  go_ret2
  exact ⟨HB3.out, .inl ⟨HPM.out, rfl⟩⟩
end Go.Proofs.YtaagkndhgicifaaGreat
