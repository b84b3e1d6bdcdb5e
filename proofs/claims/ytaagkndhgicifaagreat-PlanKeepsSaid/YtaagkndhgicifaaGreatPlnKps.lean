/- DERIVED. What is answered is its own: PlanKeeps, walked. (Printed by plkeepsgen.py.) -/
import Derived.Test.YtaagkndhgicifaaGreatPlnAl
import Derived.Test.YtaagkndhgicifaaGreatPlnBeg
import Derived.Test.YtaagkndhgicifaaGreatRPln
import Derived.Test.YtaagkndhgicifaaGreatRowSet
namespace Go.Proofs.YtaagkndhgicifaaGreat
set_option maxHeartbeats 32000000
open Go.RowKit Go.Shelf
set_option linter.unusedVariables false
set_option linter.unusedSimpArgs false
set_option maxRecDepth 100000
def RestE (base : Nat) (W : World) (a : Option Addr) (n i : Nat) (os : List EV) : Prop := n = 0 ∨ ∃ g cur, a = some ⟨g, 0, none⟩ ∧ base ≤ g ∧ W.heap[g]? = some (.cells cur 45 (0, 0)) ∧ n * 10 ≤ cur.size ∧ ∀ j x, i ≤ j → os[j]? = some x → cur[j * 10 + 9]? = some (.slice x.2.1 x.1.choice.2.length x.2.2)
theorem RestE.start {base : Nat} {W : World} {a : Option Addr} {n c : Nat} {os : List EV} (h : OwnE base W a n c os) : RestE base W a n 0 os := by
 obtain ⟨h1, h2, -, -⟩ := h
 rcases h2.2 with ⟨e, -⟩ | ⟨g, cap, cur, e, hb, hg, k1, k2, k3, k4⟩
 ·obtain ⟨-, rfl, -⟩ := Value.slice.inj e
  exact .inl rfl
 ·have hc := ownsC_cells h2 (g := g) (by rw [e]; rfl)
  obtain ⟨rfl, -, rfl⟩ := Value.slice.inj e
  refine .inr ⟨g, cur, rfl, hb, hg, Nat.le_trans (Nat.mul_le_mul_right _ k1) k3, fun j x _ hj => ?_⟩
  have h9 := hc (j * 10 + 9) (.slice x.2.1 x.1.choice.2.length x.2.2) (by rw [flat_at entL_len os j x hj 9 (by decide)]; rfl)
  rw [cOh hg] at h9
  exact h9
theorem RestE.kt {base : Nat} {A B : World} {a : Option Addr} {n i : Nat} {os : List EV} (h : RestE base A a n i os) (k : KT 45 A B) : RestE base B a n i os := by
 rcases h with h | ⟨g, cur, h1, h2, h3, h4⟩
 ·exact .inl h
 ·exact .inr ⟨g, cur, h1, h2, k g cur (0, 0) h3, h4⟩
theorem keeps17_any (w : World) (v1 v2 : Value) (x : Pack) (hx : PackAt w v1 v2 x) (q : Pk) : Calls Tryz.prog 12 #[.agg #[v1, v2], .agg #[strV q.1, .int .i64 q.2.1, .int .i64 q.2.2.1, .int .i64 q.2.2.2]] w (fun e w' => e = .returned (.bool true) ∧ Below w.heap.size w w') := by
 obtain ⟨a0, c0, rfl, -⟩ := id hx.1
 obtain ⟨a5, c5, rfl, -⟩ := id hx.2.2
 obtain ⟨P, -, hP, -, -⟩ := strV_is q.1
 obtain ⟨n0, hn0⟩ : ∃ z, z = x.seeds.length := ⟨_, rfl⟩
 obtain ⟨n5, hn5⟩ : ∃ z, z = x.recs.length := ⟨_, rfl⟩
 obtain ⟨u1, hu1⟩ : ∃ z, z = q.2.1 := ⟨_, rfl⟩
 obtain ⟨u2, hu2⟩ : ∃ z, z = q.2.2.1 := ⟨_, rfl⟩
 obtain ⟨u3, hu3⟩ : ∃ z, z = q.2.2.2 := ⟨_, rfl⟩
 rw [← hn0, ← hn5] at hx; rw [← hn0, ← hn5, hP, ← hu1, ← hu2, ← hu3]
 obtain ⟨w1, hw1, hb1, hx1, y1, y2⟩ := aBk w #[.slice a0 n0 c0, .slice a5 n5 c5] 79
 obtain ⟨w3, hw3, hb3, hx3, y3, y4⟩ := aBk w1 #[.string P, .int .i64 u1, .int .i64 u2, .int .i64 u3] 41
 obtain ⟨b2, hb2e⟩ : ∃ b, w.heap.size = b := ⟨_, rfl⟩
 obtain ⟨b3, hb3e⟩ : ∃ b, w1.heap.size = b := ⟨_, rfl⟩
 have hb13 := hb1.trans (hb3.mono hb1.size)
 have g1 := (hb3.block _ (by omega)).trans hx1
 rw [hb2e] at g1; rw [hb3e] at hx3
 have G23 := hdL g1; have G33 := hdL hx3; have HB3 := hdL hb13; have HX := hdL hx; have HQP := hdL (And.intro hP (And.intro hu1 (And.intro hu2 hu3)))
 clear hx hn0 hn5 hP hu1 hu2 hu3 hb1 hb3 hb13 hx1 hx3 g1 y1 y2 y3 y4
 go_enter Tryz.func12, Tryz.ntmps12
 go_wp2_with fail
 refine (alive17_any w3).mono ?_
 rintro e w4 ⟨rfl, h4⟩
 have G24 := hdL ((h4.block _ (loh G23.out)).trans G23.out); have G34 := hdL ((h4.block _ (loh G33.out)).trans G33.out)
 have HB4 := hdL (HB3.out.trans (h4.mono HB3.out.size)); clear h4
 obtain ⟨k0, k1⟩ := cells2 G24.out
 have HBG := hdL (begun17_any w4 _ _ x (HX.out.below HB4.out))
 go_wp2_with fail
 refine HBG.out.mono ?_
 rintro e w5 ⟨h5, B, a1, n1, c1, a2, n2, c2, ok, rfl, hok⟩
 obtain ⟨w6, hw6, hb6, hx6, y1, y2⟩ := aBk w5 #[.slice a1 n1 c1, .slice a2 n2 c2] 28
 obtain ⟨b6, hb6e⟩ : ∃ b, w5.heap.size = b := ⟨_, rfl⟩
 rw [hb6e] at hx6
 have h46 := h5.trans (hb6.mono h5.size)
 have G36 := hdL ((h46.block _ (loh G34.out)).trans G34.out); have HB6 := hdL (HB4.out.trans (h46.mono HB4.out.size)); have HX6 := hdL hx6; have HB56 := hdL hb6
 clear h5 hb6 h46 hx6 y1 y2 k0 k1
 cases ok
 ·go_wp2_with fail
  go_ret
  exact ⟨rfl, HB6.out⟩
 ·obtain ⟨st, F, hbeg⟩ := hok rfl
  have HBE := hdL (hbeg.below HB56.out)
  clear hok hbeg
  obtain ⟨⟨pl, pls, pe⟩, hpl⟩ : ∃ r, r = planT st q 600 := ⟨_, rfl⟩
  have hfw := plan_few HBE.out.few q 600
  rw [← hpl] at hfw
  dsimp only at hfw
  have hpm := pmake_any w6 B F st HBE.out.stk 600 (by decide) q
  rw [← hpl, HQP.out.1, ← HQP.out.2.1, ← HQP.out.2.2.1, ← HQP.out.2.2.2] at hpm
  have HPM := hdL hpm; have HPL := hdL hpl; have HFW := hdL hfw; clear hpm hpl hfw
  obtain ⟨e0, e1, e2, e3⟩ := cells4 G36.out
  go_wp2_with fail
  refine HPM.out.mono ?_
  intro e w7 hpp
  obtain ⟨h7, a, n, c, os, al, nl, cl, rfl, hos, hmp, hnl, hrw⟩ := hpp
  dsimp only at hmp hnl hrw ⊢
  obtain ⟨N6, hN6⟩ : ∃ z, z = w6.heap.size := ⟨_, rfl⟩
  obtain ⟨w8, hw8, hb8, hx8, y1, y2⟩ := aBk w7 #[.slice a n c, .slice al nl cl] 81
  obtain ⟨b8, hb8e⟩ : ∃ b, w7.heap.size = b := ⟨_, rfl⟩
  rw [hb8e] at hx8
  have h68 := h7.trans (hb8.mono h7.size)
  rw [← hN6] at hos hrw
  have hn40 : n ≤ 40 := by rw [hos.1]; have := HFW.out.1; rw [← hmp, List.length_map] at this; exact this
  have hnl40 : nl ≤ 40 := by rw [hnl]; exact HFW.out.2
  have hos8 := hos.below hb8
  have hln := hos.1
  have HRE := hdL (RestE.start hos8); have HWS := hdL (fun (x : EV) (hx : x ∈ os) => (RowS.own (hos8.2.2.1 x hx) : RowS 41 4 N6 w8 x.2.1 x.1.choice.2.length)); have HWL := hdL hos8.2.2.2; have HLS := hdL (RowS.own ((KT.below hb8).owns hrw) : RowS 41 4 N6 w8 al nl); have HLN := hdL hln
  have HX8 := hdL hx8; have H68 := hdL (show Below N6 w6 w8 by rw [hN6]; exact h68); have HN6 := hdL hN6
  clear h7 hos hos8 hmp hnl hrw hb8 hx8 h68 hln hN6 y1 y2 e0 e1 e2 e3
  obtain ⟨j0, j1⟩ := cells2 HX8.out
  go_wp2_with fail
  clear j0 j1
  go_loopw [37] (fun i wr => ∃ k : Nat, i = .int .i64 k ∧ k ≤ n ∧ Hid (KS w8 wr) ∧ Hid (RestE N6 wr a n k os) ∧ Hid (wr.heap[b8]? = some (.cells #[.slice a n c, .slice al nl cl] 81 (0, 0))) ∧ Hid (Below N6 w6 wr)) (fun i _ => n - (intOf i).toNat)
  case atStart => exact ⟨0, rfl, Nat.zero_le _, hdL (KS.refl _), HRE, HX8, H68⟩
  case round =>
   obtain ⟨k, rfl, hk, hks, hre, hx8, hbw⟩ := hrel
   obtain ⟨W0, hW0⟩ : ∃ W, W = wr := ⟨_, rfl⟩
   subst hW0
   by_cases hlt : k < n
   ·obtain ⟨x, hx⟩ : ∃ x, os[k]? = some x := ⟨_, gEg (by rw [← HLN.out]; exact hlt)⟩
    have hxm := List.mem_of_getElem? hx
    obtain ⟨n9, hn9⟩ : ∃ z, z = x.1.choice.2.length := ⟨_, rfl⟩
    obtain ⟨ax, hax⟩ : ∃ z, z = x.2.1 := ⟨_, rfl⟩
    obtain ⟨cx, hcx⟩ : ∃ z, z = x.2.2 := ⟨_, rfl⟩
    have hn9l : n9 ≤ 100000 := by rw [hn9]; exact HWL.out x hxm
    obtain ⟨gE, curE, rfl, hgE, hcE, hsE, hrE⟩ := hre.out.resolve_left (by omega)
    have hc9 := (cOh hcE (k * 10 + 9)).trans (hrE k x (Nat.le_refl _) hx)
    rw [← hn9, ← hax, ← hcx] at hc9
    have hws := (HWS.out x hxm).ks hks.out
    rw [← hn9, ← hax] at hws
    have HC9 := hdL hc9; have HWX := hdL hws; have HCE := hdL hcE; have HSE := hdL (And.intro hgE hsE); have HRX := hdL hrE
    clear hx hxm hn9 hax hcx hcE hgE hsE hrE hws
    obtain ⟨j0, j1⟩ := cells2 hx8.out
    go_wp2_with fail
    clear j0 j1 hc9
    go_loopw [48] (fun i wr => ∃ m : Nat, i = .int .i64 m ∧ m ≤ n9 ∧ Hid (RowS 41 4 N6 wr ax n9) ∧ Hid (KS w8 wr) ∧ Hid (KT 45 W0 wr) ∧ Hid (KT 81 W0 wr) ∧ Hid (Below N6 w6 wr)) (fun i _ => n9 - (intOf i).toNat)
    case atStart => exact ⟨0, rfl, Nat.zero_le _, HWX, hks, hdL (fun _ _ _ h => h), hdL (fun _ _ _ h => h), hbw⟩
    case round =>
     obtain ⟨m, rfl, hm, hrs, hks2, hkE, hkP, hbv⟩ := hrel
     obtain ⟨V0, hV0⟩ : ∃ W, W = wr := ⟨_, rfl⟩
     subst hV0
     have hE := hkE.out _ _ _ HCE.out
     have hP8 := hkP.out _ _ _ hx8.out
     have hc9 : V0.cell? ⟨gE, k * 10 + 9, none⟩ = some (.slice ax n9 cx) := by rw [cOh hE, ← cOh HCE.out]; exact HC9.out
     by_cases hlt2 : m < n9
     ·obtain ⟨g, cur, rfl, hgN, hgc, hgs⟩ := hrs.out.resolve_left (by omega)
      obtain ⟨z0, hz0⟩ : ∃ z, cur[m * 4]? = some z := ⟨_, Array.getElem?_eq_getElem (by omega)⟩
      obtain ⟨z1, hz1⟩ : ∃ z, cur[m * 4 + 1]? = some z := ⟨_, Array.getElem?_eq_getElem (by omega)⟩
      obtain ⟨z2, hz2⟩ : ∃ z, cur[m * 4 + 2]? = some z := ⟨_, Array.getElem?_eq_getElem (by omega)⟩
      obtain ⟨z3, hz3⟩ : ∃ z, cur[m * 4 + 3]? = some z := ⟨_, Array.getElem?_eq_getElem (by omega)⟩
      have y0' := (cOh hgc (m * 4)).trans hz0
      have y1' := (cOh hgc (m * 4 + 1)).trans hz1
      have y2' := (cOh hgc (m * 4 + 2)).trans hz2
      have y3' := (cOh hgc (m * 4 + 3)).trans hz3
      have yf := foh hgc
      obtain ⟨V1, hV1⟩ : ∃ V, ((((V0.setCell ⟨g, m * 4, none⟩ (.string ⟨#[]⟩)).setCell ⟨g, m * 4 + 1, none⟩ (.int .i64 0)).setCell ⟨g, m * 4 + 2, none⟩ (.int .i64 0)).setCell ⟨g, m * 4 + 3, none⟩ (.int .i64 0)) = V := ⟨_, rfl⟩
      obtain ⟨⟨cur2, s1, s2, -⟩, s3, s4, s5⟩ := setN_spec [.string ⟨#[]⟩, .int .i64 0, .int .i64 0, .int .i64 0] (m * 4) V0 cur hgc
      rw [← set4, hV1] at s1 s3 s4 s5
      have HR1 := hdL (show RowS 41 4 N6 V1 (some ⟨g, 0, none⟩) n9 from .inr ⟨g, cur2, rfl, hgN, s1, by omega⟩); have HK1 := hdL (hks2.out.trans s3); have HE1 := hdL (KT.trans hkE.out (s4 _ (by decide))); have HP1 := hdL (KT.trans hkP.out (s4 _ (by decide))); have HB1 := hdL (s5 N6 w6 hgN hbv.out)
      obtain ⟨j0, j1⟩ := cells2 hP8
      clear s1 s2 s3 s4 s5 hgc hgs hgN hz0 hz1 hz2 hz3 hE hP8
      go_wp2_with fail
      try rw [hV1]
      go_roundw
      case rel => exact ⟨m + 1, by go_num, hlt2, HR1, HK1, HE1, HP1, HB1⟩
      case measure => simp [intOf]; omega
     ·obtain rfl : m = n9 := by omega
      obtain ⟨cur, hcur⟩ : ∃ cu, cu = curE := ⟨_, rfl⟩
      have hgc := hE
      rw [← hcur] at hgc
      have hsz : n * 10 ≤ cur.size := by rw [hcur]; exact HSE.out.2
      obtain ⟨z0, hz0⟩ : ∃ z, cur[k * 10]? = some z := ⟨_, Array.getElem?_eq_getElem (by omega)⟩
      obtain ⟨z1, hz1⟩ : ∃ z, cur[k * 10 + 1]? = some z := ⟨_, Array.getElem?_eq_getElem (by omega)⟩
      obtain ⟨z2, hz2⟩ : ∃ z, cur[k * 10 + 2]? = some z := ⟨_, Array.getElem?_eq_getElem (by omega)⟩
      obtain ⟨z3, hz3⟩ : ∃ z, cur[k * 10 + 3]? = some z := ⟨_, Array.getElem?_eq_getElem (by omega)⟩
      obtain ⟨z4, hz4⟩ : ∃ z, cur[k * 10 + 4]? = some z := ⟨_, Array.getElem?_eq_getElem (by omega)⟩
      obtain ⟨z5, hz5⟩ : ∃ z, cur[k * 10 + 5]? = some z := ⟨_, Array.getElem?_eq_getElem (by omega)⟩
      obtain ⟨z6, hz6⟩ : ∃ z, cur[k * 10 + 6]? = some z := ⟨_, Array.getElem?_eq_getElem (by omega)⟩
      obtain ⟨z7, hz7⟩ : ∃ z, cur[k * 10 + 7]? = some z := ⟨_, Array.getElem?_eq_getElem (by omega)⟩
      obtain ⟨z8, hz8⟩ : ∃ z, cur[k * 10 + 8]? = some z := ⟨_, Array.getElem?_eq_getElem (by omega)⟩
      obtain ⟨z9, hz9⟩ : ∃ z, cur[k * 10 + 9]? = some z := ⟨_, Array.getElem?_eq_getElem (by omega)⟩
      have y0' := (cOh hgc (k * 10)).trans hz0
      have y1' := (cOh hgc (k * 10 + 1)).trans hz1
      have y2' := (cOh hgc (k * 10 + 2)).trans hz2
      have y3' := (cOh hgc (k * 10 + 3)).trans hz3
      have y4' := (cOh hgc (k * 10 + 4)).trans hz4
      have y5' := (cOh hgc (k * 10 + 5)).trans hz5
      have y6' := (cOh hgc (k * 10 + 6)).trans hz6
      have y7' := (cOh hgc (k * 10 + 7)).trans hz7
      have y8' := (cOh hgc (k * 10 + 8)).trans hz8
      have y9' := (cOh hgc (k * 10 + 9)).trans hz9
      have yf := foh hgc
      obtain ⟨V1, hV1⟩ : ∃ V, ((((((((((V0.setCell ⟨gE, k * 10, none⟩ (.string ⟨#[]⟩)).setCell ⟨gE, k * 10 + 1, none⟩ (.int .i64 0)).setCell ⟨gE, k * 10 + 2, none⟩ (.int .i64 0)).setCell ⟨gE, k * 10 + 3, none⟩ (.int .i64 0)).setCell ⟨gE, k * 10 + 4, none⟩ (.int .i64 0)).setCell ⟨gE, k * 10 + 5, none⟩ (.string ⟨#[]⟩)).setCell ⟨gE, k * 10 + 6, none⟩ (.int .i64 0)).setCell ⟨gE, k * 10 + 7, none⟩ (.int .i64 0)).setCell ⟨gE, k * 10 + 8, none⟩ (.int .i64 0)).setCell ⟨gE, k * 10 + 9, none⟩ (.slice none 0 0)) = V := ⟨_, rfl⟩
      obtain ⟨⟨cur2, s1, s2, s6⟩, s3, s4, s5⟩ := setN_spec [.string ⟨#[]⟩, .int .i64 0, .int .i64 0, .int .i64 0, .int .i64 0, .string ⟨#[]⟩, .int .i64 0, .int .i64 0, .int .i64 0, .slice none 0 0] (k * 10) V0 cur hgc
      rw [← set10, hV1] at s1 s3 s4 s5
      have hre1 : RestE N6 V1 (some ⟨gE, 0, none⟩) n (k + 1) os := .inr ⟨gE, cur2, rfl, HSE.out.1, s1, by omega, fun j y hj hy => by rw [s6 (j * 10 + 9) (.inr (by simp; omega)), hcur]; exact HRX.out j y (by omega) hy⟩
      have HR1 := hdL hre1; have HK1 := hdL (hks2.out.trans s3); have HP1 := hdL (s4 _ (by decide) _ _ _ hP8 : V1.heap[b8]? = _); have HB1 := hdL (s5 N6 w6 HSE.out.1 hbv.out)
      obtain ⟨j0, j1⟩ := cells2 hP8
      clear s1 s2 s3 s4 s5 s6 hgc hsz hcur hre1 hE hP8 hc9 hz0 hz1 hz2 hz3 hz4 hz5 hz6 hz7 hz8 hz9
      go_wp2_with fail
      try rw [hV1]
      go_roundw
      case rel => exact ⟨k + 1, by go_num, hlt, HK1, HR1, HP1, HB1⟩
      case measure => first | (simp [intOf]; done) | (simp [intOf]; omega)
   ·obtain rfl : k = n := by omega
    obtain ⟨V, hV⟩ : ∃ V, V = W0 := ⟨_, rfl⟩
    subst hV
    have HLV := hdL (HLS.out.ks hks.out)
    obtain ⟨j0, j1⟩ := cells2 hx8.out
    go_wp2_with fail
    clear j0 j1
    go_loopw [71] (fun i wr => ∃ m : Nat, i = .int .i64 m ∧ m ≤ nl ∧ Hid (RowS 41 4 N6 wr al nl) ∧ Hid (KT 81 V wr) ∧ Hid (Below N6 w6 wr)) (fun i _ => nl - (intOf i).toNat)
    case atStart => exact ⟨0, rfl, Nat.zero_le _, HLV, hdL (fun _ _ _ h => h), hbw⟩
    case round =>
     obtain ⟨m, rfl, hm, hrs, hkP, hbv⟩ := hrel
     obtain ⟨V0, hV0⟩ : ∃ W, W = wr := ⟨_, rfl⟩
     subst hV0
     have hP8 := hkP.out _ _ _ hx8.out
     by_cases hlt2 : m < nl
     ·obtain ⟨g, cur, rfl, hgN, hgc, hgs⟩ := hrs.out.resolve_left (by omega)
      obtain ⟨z0, hz0⟩ : ∃ z, cur[m * 4]? = some z := ⟨_, Array.getElem?_eq_getElem (by omega)⟩
      obtain ⟨z1, hz1⟩ : ∃ z, cur[m * 4 + 1]? = some z := ⟨_, Array.getElem?_eq_getElem (by omega)⟩
      obtain ⟨z2, hz2⟩ : ∃ z, cur[m * 4 + 2]? = some z := ⟨_, Array.getElem?_eq_getElem (by omega)⟩
      obtain ⟨z3, hz3⟩ : ∃ z, cur[m * 4 + 3]? = some z := ⟨_, Array.getElem?_eq_getElem (by omega)⟩
      have y0' := (cOh hgc (m * 4)).trans hz0
      have y1' := (cOh hgc (m * 4 + 1)).trans hz1
      have y2' := (cOh hgc (m * 4 + 2)).trans hz2
      have y3' := (cOh hgc (m * 4 + 3)).trans hz3
      have yf := foh hgc
      obtain ⟨V1, hV1⟩ : ∃ V, ((((V0.setCell ⟨g, m * 4, none⟩ (.string ⟨#[]⟩)).setCell ⟨g, m * 4 + 1, none⟩ (.int .i64 0)).setCell ⟨g, m * 4 + 2, none⟩ (.int .i64 0)).setCell ⟨g, m * 4 + 3, none⟩ (.int .i64 0)) = V := ⟨_, rfl⟩
      obtain ⟨⟨cur2, s1, s2, -⟩, s3, s4, s5⟩ := setN_spec [.string ⟨#[]⟩, .int .i64 0, .int .i64 0, .int .i64 0] (m * 4) V0 cur hgc
      rw [← set4, hV1] at s1 s3 s4 s5
      have HR1 := hdL (show RowS 41 4 N6 V1 (some ⟨g, 0, none⟩) nl from .inr ⟨g, cur2, rfl, hgN, s1, by omega⟩); have HP1 := hdL (KT.trans hkP.out (s4 _ (by decide))); have HB1 := hdL (s5 N6 w6 hgN hbv.out)
      obtain ⟨j0, j1⟩ := cells2 hP8
      clear s1 s2 s3 s4 s5 hgc hgs hgN hz0 hz1 hz2 hz3 hP8
      go_wp2_with fail
      try rw [hV1]
      go_roundw
      case rel => exact ⟨m + 1, by go_num, hlt2, HR1, HP1, HB1⟩
      case measure => simp [intOf]; omega
     ·obtain rfl : m = nl := by omega
      clear hP8
      have hb6 : Below w6.heap.size w6 V0 := by rw [← HN6.out]; exact hbv.out
      have hpm := pmake_any V0 B F st (HBE.out.stk.below hb6) 600 (by decide) q
      rw [← HPL.out, HQP.out.1, ← HQP.out.2.1, ← HQP.out.2.2.1, ← HQP.out.2.2.2] at hpm
      have HPM2 := hdL hpm; have G3V := hdL ((hb6.block _ (loh G36.out)).trans G36.out); have HX6V := hdL ((hb6.block _ (loh HX6.out)).trans HX6.out); have H6V := hdL hb6; clear hpm hb6
      obtain ⟨e0, e1, e2, e3⟩ := cells4 G3V.out
      go_wp2_with fail
      refine HPM2.out.mono ?_
      intro e w9 hpp
      obtain ⟨h9, a2', n2', c2', os2, al2, nl2, cl2, rfl, hos2, hmp2, hnl2, hrw2⟩ := hpp
      dsimp only at hmp2 hnl2 hrw2 ⊢
      obtain ⟨w10, hw10, hb10, hx10, y1, y2⟩ := aBk w9 #[.slice a2' n2' c2', .slice al2 nl2 cl2] 81
      obtain ⟨b10, hb10e⟩ : ∃ b, w9.heap.size = b := ⟨_, rfl⟩
      rw [hb10e] at hx10
      have hV10 := h9.trans (hb10.mono h9.size)
      have h610 := H6V.out.trans (hV10.mono H6V.out.size)
      have hrm := rmake17_any w10 _ st ((HBE.out.ref.below h610).keep (Z' := zAll) ⟨fun _ _ _ => trivial, Nat.le_refl _, fun _ _ _ h => h⟩) HBE.out.few.1 HBE.out.few.2 HBE.out.good 600 (by decide) q
      rw [← HPL.out, HQP.out.1, ← HQP.out.2.1, ← HQP.out.2.2.1, ← HQP.out.2.2.2] at hrm
      have hn240 : n2' ≤ 40 := by rw [hos2.1]; have := HFW.out.1; rw [← hmp2, List.length_map] at this; exact this
      have hro2 : PRow V0.heap.size w10 (.slice al2 nl2 cl2, pls) := (KT.below hb10).owns hrw2
      have hat2 := PRow.at hro2 (by show pls.length ≤ _; have := HFW.out.2; omega)
      dsimp only at hat2
      have HRM := hdL hrm; have HO2 := hdL ((hos2.below hb10).ents (by omega)); have HM2 := hdL hmp2; have HN2 := hdL hnl2; have HA2 := hdL hat2; have G310 := hdL ((hV10.block _ (loh G3V.out)).trans G3V.out); have HX610 := hdL ((hV10.block _ (loh HX6V.out)).trans HX6V.out); have HX10 := hdL hx10; have HB10 := hdL (HB6.out.trans (h610.mono HB6.out.size))
      clear h9 hos2 hmp2 hnl2 hrw2 hb10 hx10 hV10 h610 hrm hro2 hat2 y1 y2 e0 e1 e2 e3
      obtain ⟨e0, e1, e2, e3⟩ := cells4 G310.out
      obtain ⟨k0, k1⟩ := cells2 HX610.out
      go_wp2_with fail
      refine HRM.out.mono ?_
      intro e w11 hrp
      obtain ⟨h11, a', c', os', al', cl', rfl, hos', hmp', hpl'⟩ := hrp
      dsimp only at hmp' hpl' ⊢
      rw [← HN2.out] at hpl' ⊢
      obtain ⟨n', hn'⟩ : ∃ z, z = os'.length := ⟨_, rfl⟩
      rw [← hn'] at hos' ⊢
      have hs17 := rsame17_any w11 _ _ _ _ os2 os' (HO2.out.below h11) hos'
      rw [decide_eq_true (HM2.out.trans hmp'.symm)] at hs17
      have HS17 := hdL hs17; have HX11 := hdL ((h11.block _ (loh HX10.out)).trans HX10.out); have HA11 := hdL (HA2.out.below h11); have HPR := hdL hpl'; have HB11 := hdL (HB10.out.trans (h11.mono HB10.out.size))
      clear h11 hos' hmp' hpl' hn' hs17 e0 e1 e2 e3 k0 k1
      obtain ⟨j0, j1⟩ := cells2 HX11.out
      have hee : ((pe : Int) == pe) = true := by simp
      go_wp2_with fail
      refine HS17.out.mono ?_
      rintro e wD ⟨rfl, hD⟩
      have hs14 := rsame_any wD _ _ _ (HA11.out.below hD) _ _ _ (HPR.out.below hD)
      rw [decide_eq_true (rfl : pls = pls)] at hs14
      have HS14 := hdL hs14; have HXD := hdL ((hD.block _ (loh HX11.out)).trans HX11.out); have HBD := hdL (HB11.out.trans (hD.mono HB11.out.size)); clear hs14 hD j0 j1
      obtain ⟨j0, j1⟩ := cells2 HXD.out
      go_wp2_with fail
      refine HS14.out.mono ?_
      rintro e wE ⟨rfl, hE⟩
      have HBF := hdL (HBD.out.trans (hE.mono HBD.out.size)); clear hE j0 j1
      go_wp2_with fail
      go_ret
      exact ⟨rfl, HBF.out⟩
end Go.Proofs.YtaagkndhgicifaaGreat
