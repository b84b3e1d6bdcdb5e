/- DERIVED. What a plan is: PlanWhole, walked. (Printed by plwholegen.py.) -/
import Derived.Test.YtaagkndhgicifaaGreatPlnAl
import Derived.Test.YtaagkndhgicifaaGreatPlnBeg
import Derived.Test.YtaagkndhgicifaaGreatPlnLawB
import Derived.Test.YtaagkndhgicifaaGreatRHolds
namespace Go.Proofs.YtaagkndhgicifaaGreat
set_option maxHeartbeats 32000000
open Go.RowKit Go.Shelf
set_option linter.unusedVariables false
set_option linter.unusedSimpArgs false
set_option maxRecDepth 100000
theorem plan_whole {st : St} {q : Pk} {left : Int} {pl : List Ent} {pls : List Pk} (h : (pl, pls, (0 : Int)) = planT st q left) : inP (pl.map Ent.pkg) q = true ∧ ∀ i y, pl[i]? = some y →
  (∀ x, 0 < i → pl[i - 1]? = some x → entLt x y) ∧ 0 ≤ y.stage ∧ st.isSeed y.pkg = decide (y.stage = 0) ∧ (0 < y.stage → holdsB st y.pkg (((pl.take i).filter fun z => decide (z.stage < y.stage)).map Ent.pkg) y.choice = true) ∧
  (decide (y.pkg = q) || (pl.drop (i + 1)).any fun z => usesB z y.pkg) = true := by
 rcases planT_cases st q left with ⟨-, g⟩ | ⟨-, -, g⟩ | ⟨L, l, m, hh, hf, hp, g⟩ | ⟨L, l, m, hh, hf, hp, g⟩
 ·rw [g] at h; injection h with h1 h2; injection h2 with h2 h3; exact absurd h3 (by decide)
 ·rw [g] at h; injection h with h1 h2; injection h2 with h2 h3; exact absurd h3 (by decide)
 ·rw [g] at h; injection h with h1 h2; injection h2 with h2 h3; exact absurd h3 (by decide)
 ·rw [g] at h; injection h with h1 h2; subst h1
  exact ⟨inP_iff.2 (need_own hp), fun i y hi => need_step hf hi⟩
theorem plan_not0 {st : St} {q : Pk} {left : Int} {pl : List Ent} {pls : List Pk} {pe : Int} (h : (pl, pls, pe) = planT st q left) (h0 : pe ≠ 0) : pl = [] := by
 rcases planT_cases st q left with ⟨-, g⟩ | ⟨-, -, g⟩ | ⟨L, l, m, hh, hf, hp, g⟩ | ⟨L, l, m, hh, hf, hp, g⟩
 ·rw [g] at h; injection h with h1 h2
 ·rw [g] at h; injection h with h1 h2
 ·rw [g] at h; injection h with h1 h2
 ·rw [g] at h; injection h with h1 h2; injection h2 with h2 h3; exact absurd h3 h0
theorem sl10 (b0 o0 n cw k : Nat) (aR : Option Addr) (cR nr : Nat) (hk : k ≤ n) (hn : n ≤ cw) (hk2 : k ≤ 1000) (hnr : n - k = nr) (hif : (cw = k ∧ aR = some ⟨b0, o0, none⟩ ∧ cR = 0) ∨ (¬ cw = k ∧ aR = some ⟨b0, o0 + k * 10, none⟩ ∧ cR = cw - k)) (W : World) :
  (Instr.slice 68 (.slice (some ⟨b0, o0, none⟩) n cw) (some (.int .i64 (k : Int))) none none).run Tryz.prog W = .ok (.slice aR nr cR) W := by
 have hs : (sizeOf (Tryz.prog.elem 68)).run Tryz.prog W = .ok 10 W := by kernel_rfl
 rw [run_slice_l W _ _ _ _ (by kernel_rfl) .i64 (k : Int) (by omega) (by omega), hs]
 rcases hif with ⟨rfl, rfl, rfl⟩ | ⟨h, rfl, rfl⟩
 ·simp [Result.andThen, sliced, hnr]
 ·simp [Result.andThen, sliced, hnr, h, Addr.add_lit]
theorem filtE_take {L : List Ent} {s : Int} {j : Nat} {z : Ent} (h : L[j]? = some z) : ((L.take (j + 1)).filter fun x => decide (x.stage < s)).map Ent.pkg = ((L.take j).filter fun x => decide (x.stage < s)).map Ent.pkg ++ (if z.stage < s then [z.pkg] else []) := by
 rw [List.take_add_one, h, List.filter_append, List.map_append]
 congr 1
 by_cases hs : z.stage < s <;> simp [hs]
theorem whole_any (w : World) (v1 v2 : Value) (x : Pack) (hx : PackAt w v1 v2 x) (q : Pk) : Calls Tryz.prog 10 #[.agg #[v1, v2], .agg #[strV q.1, .int .i64 q.2.1, .int .i64 q.2.2.1, .int .i64 q.2.2.2]] w (fun e w' => e = .returned (.bool true) ∧ Below w.heap.size w w') := by
 obtain ⟨a0, c0, rfl, -⟩ := id hx.1
 obtain ⟨a5, c5, rfl, -⟩ := id hx.2.2
 obtain ⟨P, -, hP, -, -⟩ := strV_is q.1
 obtain ⟨n0, hn0⟩ : ∃ z, z = x.seeds.length := ⟨_, rfl⟩
 obtain ⟨n5, hn5⟩ : ∃ z, z = x.recs.length := ⟨_, rfl⟩
 obtain ⟨u1, hu1⟩ : ∃ v, v = q.2.1 := ⟨_, rfl⟩
 obtain ⟨u2, hu2⟩ : ∃ z, z = q.2.2.1 := ⟨_, rfl⟩
 obtain ⟨u3, hu3⟩ : ∃ z, z = q.2.2.2 := ⟨_, rfl⟩
 rw [← hn0, ← hn5] at hx; rw [← hn0, ← hn5, hP, ← hu1, ← hu2, ← hu3]
 obtain ⟨w1, hw1, hb1, hx1, y1, y2⟩ := aBk w #[.slice a0 n0 c0, .slice a5 n5 c5] 79
 obtain ⟨w3, hw3, hb3, hx3, y3, y4⟩ := aBk w1 #[.string P, .int .i64 u1, .int .i64 u2, .int .i64 u3] 41
 obtain ⟨b2, hb2e⟩ : ∃ b, w.heap.size = b := ⟨_, rfl⟩
 obtain ⟨b3, hb3e⟩ : ∃ b, w1.heap.size = b := ⟨_, rfl⟩
 have hb13 := hb1.trans (hb3.mono hb1.size)
 have g1 := (hb3.block _ (by omega)).trans hx1
 rw [hb2e] at g1; rw [hb3e] at hx3
 have G23 := hdL g1; have G33 := hdL hx3; have HB3 := hdL hb13; have HX := hdL hx; have HQP := hdL (And.intro hP (And.intro hu1 (And.intro hu2 hu3)))
 clear hx hn0 hn5 hP hu1 hu2 hu3 hb1 hb3 hb13 hx1 hx3 g1 y1 y2 y3 y4
 go_enter Tryz.func10, Tryz.ntmps10
 go_wp2_with fail
 refine (alive17_any w3).mono ?_
 rintro e w4 ⟨rfl, h4⟩
 have G24 := hdL ((h4.block _ (loh G23.out)).trans G23.out); have G34 := hdL ((h4.block _ (loh G33.out)).trans G33.out)
 have HB4 := hdL (HB3.out.trans (h4.mono HB3.out.size)); clear h4
 obtain ⟨k0, k1⟩ := cells2 G24.out
 have HBG := hdL (begun17_any w4 _ _ x (HX.out.below HB4.out))
 go_wp2_with fail
 refine HBG.out.mono ?_
 rintro e w5 ⟨h5, B, a1, n1, c1, a2, n2, c2, ok, rfl, hok⟩
 obtain ⟨w6, hw6, hb6, hx6, y1, y2⟩ := aBk w5 #[.slice a1 n1 c1, .slice a2 n2 c2] 28
 obtain ⟨b6, hb6e⟩ : ∃ b, w5.heap.size = b := ⟨_, rfl⟩
 rw [hb6e] at hx6
 have h46 := h5.trans (hb6.mono h5.size)
 have G36 := hdL ((h46.block _ (loh G34.out)).trans G34.out); have HB6 := hdL (HB4.out.trans (h46.mono HB4.out.size)); have HX6 := hdL hx6; have HB56 := hdL hb6
 clear h5 hb6 h46 hx6 y1 y2 k0 k1
 cases ok
 ·go_wp2_with fail
  go_ret
  exact ⟨rfl, HB6.out⟩
 ·obtain ⟨st, F, hbeg⟩ := hok rfl
  have HBE := hdL (hbeg.below HB56.out)
  clear hok hbeg
  obtain ⟨⟨pl, pls, pe⟩, hpl⟩ : ∃ r, r = planT st q 600 := ⟨_, rfl⟩
  have hfw := plan_few HBE.out.few q 600
  rw [← hpl] at hfw
  dsimp only at hfw
  have hpm := pmake_any w6 B F st HBE.out.stk 600 (by decide) q
  rw [← hpl, HQP.out.1, ← HQP.out.2.1, ← HQP.out.2.2.1, ← HQP.out.2.2.2] at hpm
  have HPM := hdL hpm; have HFW := hdL hfw; have HPL := hdL hpl; clear hpm hpl hfw
  obtain ⟨e0, e1, e2, e3⟩ := cells4 G36.out
  go_wp2_with fail
  refine HPM.out.mono ?_
  intro e w7 hpp
  obtain ⟨h7, a, n, c, os, al, nl, cl, rfl, hos, hmp, -, -⟩ := hpp
  dsimp only at hmp ⊢
  obtain ⟨w8, hw8, hb8, hx8, y1, y2⟩ := aBk w7 #[.slice a n c, .slice al nl cl] 81
  obtain ⟨b8, hb8e⟩ : ∃ b, w7.heap.size = b := ⟨_, rfl⟩
  rw [hb8e] at hx8
  have h68 := h7.trans (hb8.mono h7.size)
  have hn40 : n ≤ 40 := by rw [hos.1]; have := HFW.out.1; rw [← hmp, List.length_map] at this; exact this
  have hents := (hos.below hb8).ents (by omega)
  have hncap : n ≤ c := by obtain ⟨a', c', e, hb⟩ := ownsC_form hos.2.1; obtain ⟨-, -, rfl⟩ := Value.slice.inj e; exact hb
  have HOS := hdL hents; have HOL := hdL hos.1; have HWL := hdL hos.2.2.2; have HMP := hdL hmp; have HREF := hdL ((HBE.out.ref.below h68).keep (Z' := zAll) ⟨fun _ _ _ => trivial, Nat.le_refl _, fun _ _ _ h => h⟩); have G38 := hdL ((h68.block _ (loh G36.out)).trans G36.out); have HX68 := hdL ((h68.block _ (loh HX6.out)).trans HX6.out); have HX8 := hdL hx8; have HB8 := hdL (HB6.out.trans (h68.mono HB6.out.size))
  clear h7 hos hents hmp hb8 hx8 h68 y1 y2 e0 e1 e2 e3
  obtain ⟨j0, j1⟩ := cells2 HX8.out
  by_cases hpe : pe = 0
  ·subst hpe
   obtain ⟨hinq, hall⟩ := plan_whole HPL.out
   have HINQ := hdL hinq; have HALL := hdL hall; clear hinq hall
   obtain ⟨iP, hiP, hzP0, hzP1, hzP2⟩ := info_parts infoPkg
   have HI := hdL (And.intro hiP (And.intro hzP0 (And.intro hzP1 hzP2))); clear hiP hzP0 hzP1 hzP2
   go_wp2_with fail
   clear j0 j1
   go_loopw [10, 44] (fun o i wr => ∃ (k : Nat) (ar : Option Addr) (cr : Nat), o = .slice ar k cr ∧ i = .int .i64 k ∧ k ≤ n ∧ Hid (PRow w8.heap.size wr (.slice ar k cr, (pl.take k).map Ent.pkg)) ∧ Hid (Below w8.heap.size w8 wr)) (fun _ i _ => n - (intOf i).toNat)
   case atStart => exact ⟨0, none, 0, rfl, rfl, Nat.zero_le _, hdL (PRow.nil _ _), hdL (Below.refl _ _)⟩
   case round =>
    obtain ⟨k, ar, cr, rfl, rfl, hk, hrow, hbw⟩ := hrel
    obtain ⟨W0, hW0⟩ : ∃ W, W = wr := ⟨_, rfl⟩
    subst hW0
    by_cases hlt : k < n
    ·obtain ⟨y, hx⟩ : ∃ x, os[k]? = some x := ⟨_, gEg (by rw [← HOL.out]; exact hlt)⟩
     have hyp : pl[k]? = some y.1 := by rw [← HMP.out, List.getElem?_map, hx]; rfl
     obtain ⟨d1, d2, d3, d4, d5⟩ := HALL.out k y.1 hyp
     have hE0 := HOS.out.below hbw.out
     obtain ⟨bR, oR, rfl⟩ : ∃ (bR : Nat) (oR : Nat), a = some ⟨bR, oR, none⟩ := by obtain ⟨bR, oR, -, -, h, -⟩ := hE0.cells hx; exact ⟨bR, oR, h⟩
     obtain ⟨bb, oo, S', T', hae, hS', hT', hw, c0, c1, c2, c3, c4, c5, c6, c7, c8, c9⟩ := (hE0).cells hx
     obtain ⟨rfl, rfl⟩ : bR = bb ∧ oR = oo := by have := sIj hae; injection this with h1 h2 h3; exact ⟨h1, h2⟩
     obtain ⟨S, T, p1, p2, p3, sg, t1, t2, t3, n9, hl⟩ := ent_let y.1
     obtain rfl : S' = S := by rw [hl.s] at hS'; injection hS' with hS'; exact hS'.symm
     obtain rfl : T' = T := by rw [hl.t] at hT'; injection hT' with hT'; exact hT'.symm
     rw [← hl.p.1] at c1; rw [← hl.p.2.1] at c2; rw [← hl.p.2.2] at c3; rw [← hl.g] at c4; rw [← hl.c.1] at c6; rw [← hl.c.2.1] at c7; rw [← hl.c.2.2] at c8; rw [← hl.n] at c9
     obtain ⟨ax, hax⟩ : ∃ v, v = y.2.1 := ⟨_, rfl⟩
     obtain ⟨cx, hcx⟩ : ∃ v, v = y.2.2 := ⟨_, rfl⟩
     rw [← hax, ← hcx] at c9
     obtain ⟨w9, hw9, hb9, hx9, z1, z2⟩ := aBk W0 #[.string S', .int .i64 p1, .int .i64 p2, .int .i64 p3, .int .i64 sg, .string T', .int .i64 t1, .int .i64 t2, .int .i64 t3, .slice ax n9 cx] 45
     obtain ⟨b9, hb9e⟩ : ∃ b, W0.heap.size = b := ⟨_, rfl⟩
     rw [hb9e] at hx9
     have h89 := hbw.out.trans (hb9.mono hbw.out.size)
     have htk : (pl.take (k + 1)).map Ent.pkg = (pl.take k).map Ent.pkg ++ [y.1.pkg] := by rw [List.take_add_one, hyp]; simp
     rw [← hl.g] at d2 d3 d4
     have HD1 := hdL d1; have HD3 := hdL d3; have HD4 := hdL d4; have HD5 := hdL d5; have HTK := hdL htk; have HL := hdL hl; have HAX := hdL (And.intro hax hcx); have HYX := hdL hx; have HX9 := hdL hx9; have H89 := hdL h89; have HRO9 := hdL ((KT.below hb9).owns hrow.out); have HX89 := hdL ((h89.block _ (loh HX8.out)).trans HX8.out)
     clear hx hyp d1 d3 d4 d5 hE0 hae hS' hT' hw hl hax hcx hb9 hx9 h89 htk z1 z2
     go_upto_region 13 with fail
     clear c0 c1 c2 c3 c4 c5 c6 c7 c8 c9
     go_cut [87] (fun x wx => x = .bool false ∧ Hid (Below w9.heap.size w9 wx))
     case first =>
      by_cases hk0 : k = 0
      ·subst hk0
       obtain ⟨ι, F', hF0, hFB, hFG⟩ := below_fam w9
       have hcF : ∀ a v, w9.cell? a = some v → ∀ n, (F' n).cell? a = some v := fun a v h n => bkp (hFB n) _ _ h
       have x0 := hcF _ _ (cOh HX9.out 0)
       have x1 := hcF _ _ (cOh HX9.out 1)
       have x2 := hcF _ _ (cOh HX9.out 2)
       have x3 := hcF _ _ (cOh HX9.out 3)
       have x4 := hcF _ _ (cOh HX9.out 4)
       have x5 := hcF _ _ (cOh HX9.out 5)
       have x6 := hcF _ _ (cOh HX9.out 6)
       have x7 := hcF _ _ (cOh HX9.out 7)
       have x8 := hcF _ _ (cOh HX9.out 8)
       have x9 := hcF _ _ (cOh HX9.out 9)
       have f8 := hcF _ _ (cOh HX89.out 0)
       have HF0 := hdL hF0; have HFB := hdL hFB; clear hF0 hFB hFG hcF
       obtain ⟨m0', hn0⟩ := HF0.out 1
       have hne : Nonempty ι := ⟨m0'⟩
       refine wp_region_fam F' m0' hn0 (by kernel_rfl) (by kernel_rfl) ?_
       repeat (go_big_quiet_step (fail))
       refine wpQuiet_nil ?_
       intro _ hw'
       obtain ⟨m1, hw''⟩ := hw'
       subst hw''
       go_wp2_with fail
       go_meet
       exact ⟨rfl, HFB.out m1⟩
      ·obtain ⟨p, hx⟩ : ∃ x, os[k - 1]? = some x := ⟨_, gEg (by rw [← HOL.out]; omega)⟩
       have hlt' := HD1.out p.1 (by omega) (by rw [← HMP.out, List.getElem?_map, hx]; rfl)
       have hE1 := HOS.out.below H89.out
       obtain ⟨bbp, oop, Sp', Tp', hae, hS', hT', hwp, c0, c1, c2, c3, c4, c5, c6, c7, c8, c9⟩ := (hE1).cells hx
       obtain ⟨rfl, rfl⟩ : bR = bbp ∧ oR = oop := by have := sIj hae; injection this with h1 h2 h3; exact ⟨h1, h2⟩
       obtain ⟨Sp, Tp, p1p, p2p, p3p, sgp, t1p, t2p, t3p, n9p, hlp⟩ := ent_let p.1
       obtain rfl : Sp' = Sp := by rw [hlp.s] at hS'; injection hS' with hS'; exact hS'.symm
       obtain rfl : Tp' = Tp := by rw [hlp.t] at hT'; injection hT' with hT'; exact hT'.symm
       rw [← hlp.p.1] at c1; rw [← hlp.p.2.1] at c2; rw [← hlp.p.2.2] at c3; rw [← hlp.g] at c4; rw [← hlp.c.1] at c6; rw [← hlp.c.2.1] at c7; rw [← hlp.c.2.2] at c8; rw [← hlp.n] at c9
       obtain ⟨axp, haxp⟩ : ∃ v, v = p.2.1 := ⟨_, rfl⟩
       obtain ⟨cxp, hcxp⟩ : ∃ v, v = p.2.2 := ⟨_, rfl⟩
       rw [← haxp, ← hcxp] at c9
       unfold entLt at hlt'
       rw [← hlp.g, ← HL.out.g] at hlt'
       have hcall := fun W (hW : Below w9.heap.size w9 W) => rpcmp_any W p.1.pkg y.1.pkg
       simp only [hlp.s, ← hlp.p.1, ← hlp.p.2.1, ← hlp.p.2.2, HL.out.s, ← HL.out.p.1, ← HL.out.p.2.1, ← HL.out.p.2.2] at hcall
       have hk1 : IntKind.i64.wrap ((k : Int) - 1) = ((k - 1 : Nat) : Int) := by rw [IntWalk.i64_in _ (by omega)]; omega
       have hkp : ¬ (k : Int) ≤ 0 := by omega
       have hkp2 : (0 : Int) < k := by omega
       have hkd : decide (0 < k) = true := decide_eq_true (by omega)
       obtain ⟨ι, F', hF0, hFB, hFG⟩ := below_fam w9
       have hcF : ∀ a v, w9.cell? a = some v → ∀ n, (F' n).cell? a = some v := fun a v h n => bkp (hFB n) _ _ h
       have x0 := hcF _ _ (cOh HX9.out 0)
       have x1 := hcF _ _ (cOh HX9.out 1)
       have x2 := hcF _ _ (cOh HX9.out 2)
       have x3 := hcF _ _ (cOh HX9.out 3)
       have x4 := hcF _ _ (cOh HX9.out 4)
       have x5 := hcF _ _ (cOh HX9.out 5)
       have x6 := hcF _ _ (cOh HX9.out 6)
       have x7 := hcF _ _ (cOh HX9.out 7)
       have x8 := hcF _ _ (cOh HX9.out 8)
       have x9 := hcF _ _ (cOh HX9.out 9)
       have f8 := hcF _ _ (cOh HX89.out 0)
       have g0 := hcF _ _ (c0)
       have g1 := hcF _ _ (c1)
       have g2 := hcF _ _ (c2)
       have g3 := hcF _ _ (c3)
       have g4 := hcF _ _ (c4)
       have HCALL := hdL (fun h => calls_fam hFB hFG (fun W hW => (hcall W hW).mono (fun e w' g => (⟨g.1.trans (by rw [h]), g.2⟩ : e = .returned (.int .i64 (-1)) ∧ Below W.heap.size W w'))) : pkCmpI p.1.pkg y.1.pkg = -1 → _)
       have HF0 := hdL hF0; have HFB := hdL hFB; clear hF0 hFB hFG hcF
       have HPL2 := hdL hlp; clear hx hE1 hae hS' hT' hwp hlp haxp hcxp hcall c0 c1 c2 c3 c4 c5 c6 c7 c8 c9
       rcases hlt' with hs | ⟨hs, hpk⟩
       ·have hg1 : ¬ sg < sgp := by omega
        have hg2 : ((sgp : Int) == sg) = false := by simp; omega
        obtain ⟨m0', hn0⟩ := HF0.out 1
        have hne : Nonempty ι := ⟨m0'⟩
        refine wp_region_fam F' m0' hn0 (by kernel_rfl) (by kernel_rfl) ?_
        repeat (go_big_quiet_step (fail))
        refine wpQuiet_nil ?_
        intro _ hw'
        obtain ⟨m1, hw''⟩ := hw'
        subst hw''
        go_wp2_with fail
        go_meet
        exact ⟨rfl, HFB.out m1⟩
       ·have hcm : pkCmpI p.1.pkg y.1.pkg = -1 := by unfold pkCmpI; rw [if_pos hpk]
        have HC := hdL (HCALL.out hcm); clear hcm hpk
        have hg1 : ¬ sg < sgp := by omega
        have hg2 : ((sgp : Int) == sg) = true := by simp; omega
        obtain ⟨m0', hn0⟩ := HF0.out 1
        have hne : Nonempty ι := ⟨m0'⟩
        refine wp_region_fam F' m0' hn0 (by kernel_rfl) (by kernel_rfl) ?_
        repeat (go_big_quiet_step ((go_at_call 42; exact HC.out _)))
        refine wpQuiet_nil ?_
        intro _ hw'
        obtain ⟨m1, hw''⟩ := hw'
        subst hw''
        go_wp2_with fail
        go_meet
        exact ⟨rfl, HFB.out m1⟩
     case rest =>
      obtain ⟨W1, hW1⟩ : ∃ W, W = wc := ⟨_, rfl⟩
      subst hW1
      obtain ⟨rfl, hbc⟩ := hcut
      have h81 := H89.out.trans (hbc.out.mono H89.out.size)
      have HX81 := hdL ((h81.block _ (loh HX8.out)).trans HX8.out); have HX91 := hdL ((hbc.out.block _ (loh HX9.out)).trans HX9.out); have HRO1 := hdL ((KT.below hbc.out).owns HRO9.out); have H81 := hdL h81; clear h81 hbc
      obtain ⟨j0, j1⟩ := cells2 HX81.out
      go_wp2_with fail
      clear j0 j1
      go_loopw [13, 93] (fun o i wr => ∃ (j : Nat) (ab : Option Addr) (nb cb : Nat), o = .slice ab nb cb ∧ i = .int .i64 j ∧ j ≤ k ∧ nb ≤ j ∧ Hid (nb = (((pl.take j).filter fun z => decide (z.stage < sg)).map Ent.pkg).length) ∧ Hid (PRow W1.heap.size wr (.slice ab nb cb, ((pl.take j).filter fun z => decide (z.stage < sg)).map Ent.pkg)) ∧ Hid (Below W1.heap.size W1 wr)) (fun _ i _ => k - (intOf i).toNat)
      case atStart => exact ⟨0, none, 0, 0, rfl, rfl, Nat.zero_le _, Nat.le_refl _, hdL rfl, hdL (PRow.nil _ _), hdL (Below.refl _ _)⟩
      case round =>
       obtain ⟨j, ab, nb, cb, rfl, rfl, hj, hnj, hnb, hbr, hbv⟩ := hrel
       obtain ⟨V0, hV0⟩ : ∃ W, W = wr := ⟨_, rfl⟩
       subst hV0
       by_cases hlt2 : j < k
       ·obtain ⟨z, hx⟩ : ∃ x, os[j]? = some x := ⟨_, gEg (by rw [← HOL.out]; omega)⟩
        have hft := filtE_take (L := pl) (s := sg) (j := j) (z := z.1) (by rw [← HMP.out, List.getElem?_map, hx]; rfl)
        have hE2 := HOS.out.below (H81.out.trans (hbv.out.mono H81.out.size))
        obtain ⟨bbz, ooz, Sz', Tz', hae, hS', hT', hwz, c0, c1, c2, c3, c4, c5, c6, c7, c8, c9⟩ := (hE2).cells hx
        obtain ⟨rfl, rfl⟩ : bR = bbz ∧ oR = ooz := by have := sIj hae; injection this with h1 h2 h3; exact ⟨h1, h2⟩
        obtain ⟨Sz, Tz, p1z, p2z, p3z, sgz, t1z, t2z, t3z, n9z, hlz⟩ := ent_let z.1
        obtain rfl : Sz' = Sz := by rw [hlz.s] at hS'; injection hS' with hS'; exact hS'.symm
        obtain rfl : Tz' = Tz := by rw [hlz.t] at hT'; injection hT' with hT'; exact hT'.symm
        rw [← hlz.p.1] at c1; rw [← hlz.p.2.1] at c2; rw [← hlz.p.2.2] at c3; rw [← hlz.g] at c4; rw [← hlz.c.1] at c6; rw [← hlz.c.2.1] at c7; rw [← hlz.c.2.2] at c8; rw [← hlz.n] at c9
        obtain ⟨axz, haxz⟩ : ∃ v, v = z.2.1 := ⟨_, rfl⟩
        obtain ⟨cxz, hcxz⟩ : ∃ v, v = z.2.2 := ⟨_, rfl⟩
        rw [← haxz, ← hcxz] at c9
        rw [← hlz.g] at hft
        have hpk : (pkL z.1.pkg).toArray = #[.string Sz', .int .i64 p1z, .int .i64 p2z, .int .i64 p3z] := by unfold pkL; rw [hlz.s, ← hlz.p.1, ← hlz.p.2.1, ← hlz.p.2.2]
        obtain ⟨w12, hw12, hb12, hx12, z1, z2⟩ := aBk V0 #[.string Sz', .int .i64 p1z, .int .i64 p2z, .int .i64 p3z, .int .i64 sgz, .string Tz', .int .i64 t1z, .int .i64 t2z, .int .i64 t3z, .slice axz n9z cxz] 45
        obtain ⟨b12, hb12e⟩ : ∃ b, V0.heap.size = b := ⟨_, rfl⟩
        rw [hb12e] at hx12
        have h112 := hbv.out.trans (hb12.mono hbv.out.size)
        have g9 := (h112.block _ (loh HX91.out)).trans HX91.out
        have HFT := hdL hft; have HPK := hdL hpk; have H112 := hdL h112; have HBR := hdL ((KT.below hb12).owns hbr.out)
        obtain ⟨f0, f1, f2, f3, f4, f5, f6, f7, f8, f9⟩ := cells10 hx12
        obtain ⟨d0, d1, d2, d3, d4, d5, d6, d7, d8, d9⟩ := cells10 g9
        have HX12 := hdL hx12
        clear hx hft hE2 hae hS' hT' hwz hlz haxz hcxz hpk hb12 hx12 h112 g9 z1 z2
        by_cases hs : sgz < sg
        ·obtain ⟨w13, hw13, hb13, hx13, z1, z2⟩ := aBk w12 #[.string Sz', .int .i64 p1z, .int .i64 p2z, .int .i64 p3z] 41
         obtain ⟨b13, hb13e⟩ : ∃ b, w12.heap.size = b := ⟨_, rfl⟩
         rw [hb13e] at hx13
         rw [← HPK.out] at hx13
         have hown := ownsC_below HBR.out hb13
         try dsimp only at hown
         rw [← hnb.out] at hown
         have hbase : W1.heap.size ≤ w13.heap.size := by have h1 := H112.out.size; have h2 := hb13.size; omega
         have HOW := hdL hown; have HSRC := hdL (src_pkb hx13); have HB13 := hdL hb13; have HBASE := hdL hbase
         clear hown hx13 hb13 hbase z1 z2
         go_wp2_with (first | (at_builtin; refine wpList_append_c rfl (.tmp 102) (.tmp 105) 22 22 rfl W1.heap.size 41 iP _ 4 40 Tryz.underlying22 HI.out.1 HI.out.2.1 HI.out.2.2.1 HI.out.2.2.2 rfl (.slice ab nb cb) rfl nb _ HOW.out (.slice (some ⟨b13, 0, none⟩) 1 1) rfl 1 _ HSRC.out (by unfold maxLen; omega) (by omega) HBASE.out ?_; intro a' c' w14 ho hgr hw; have HO := hdL ho; have HG := hdL hgr; have HW := hdL hw; clear ho hgr hw) | fail)
         go_roundw
         case rel =>
          have hft := HFT.out
          rw [if_pos hs] at hft
          refine ⟨j + 1, a', nb + 1, c', rfl, by go_num, hlt2, by omega, hdL ?_, hdL ?_, hdL ?_⟩
          ·rw [hft, lAp, lSg, ← hnb.out]
          ·unfold PRow
           dsimp only
           rw [hft, lAp, lSg, ← hnb.out, List.flatMap_append, List.flatMap_singleton]
           exact HO.out
          ·have h1 := H112.out.trans (HB13.out.mono H112.out.size)
           exact h1.grown HG.out h1.size (fun g hg => (oCk HOW.out hg).1)
         case measure => simp [intOf]; omega
        ·go_wp2_with fail
         go_roundw
         case rel =>
          have hft := HFT.out
          rw [if_neg hs, List.append_nil] at hft
          exact ⟨j + 1, ab, nb, cb, rfl, by go_num, hlt2, by omega, hdL (by rw [hft]; exact hnb.out), hdL (by rw [hft]; exact HBR.out), H112⟩
         case measure => simp [intOf]; omega
       ·obtain rfl : j = k := by omega
        obtain ⟨bl, hbl⟩ : ∃ b, b = ((pl.take j).filter fun z => decide (z.stage < sg)).map Ent.pkg := ⟨_, rfl⟩
        have hbr2 := hbr.out; have hnb2 := hnb.out; have hd4 := HD4.out
        rw [← hbl] at hbr2 hnb2 hd4
        obtain ⟨V, hV⟩ : ∃ V, V = V0 := ⟨_, rfl⟩
        subst hV
        have h8V := H81.out.trans (hbv.out.mono H81.out.size)
        have HX8V := hdL ((hbv.out.block _ (loh HX81.out)).trans HX81.out); have HX9V := hdL ((hbv.out.block _ (loh HX91.out)).trans HX91.out); have HX6V := hdL ((h8V.block _ (loh HX68.out)).trans HX68.out); have G3V := hdL ((h8V.block _ (loh G38.out)).trans G38.out); have HROV := hdL ((KT.below hbv.out).owns HRO1.out); have H8V := hdL h8V; have HREFV := hdL (HREF.out.below h8V); have HEV := hdL (HOS.out.below h8V)
        have hpool := (PRow.at hbr2 (by show bl.length ≤ _; rw [← hnb2]; omega)).keep (Z' := zAll) ⟨fun _ _ _ => trivial, Nat.le_refl _, fun _ _ _ h => h⟩
        dsimp only at hpool
        have HPOOL := hdL hpool; have HDB := hdL hd4; clear hbr2 hnb2 hd4 hbl hpool h8V
        have hwy := ents_mem HEV.out y (List.mem_of_getElem? HYX.out)
        unfold withV at hwy
        have hho := fun (W : World) (hW : Below V.heap.size V W) => rholds_any W _ st (HREFV.out.below hW) y.1.pkg _ _ (HPOOL.out.below hW) y.1.choice.1 y.1.choice.2 _ (((hwy.keep (Z' := zAll) ⟨fun _ _ _ => trivial, Nat.le_refl _, fun _ _ _ h => h⟩)).below hW) (HWL.out y (List.mem_of_getElem? HYX.out))
        simp only [HL.out.s, ← HL.out.p.1, ← HL.out.p.2.1, ← HL.out.p.2.2, HL.out.t, ← HL.out.c.1, ← HL.out.c.2.1, ← HL.out.c.2.2, ← HL.out.n, ← HAX.out.1, ← HAX.out.2] at hho
        have his := fun (W : World) (hW : Below V.heap.size V W) => riss_any W zAll _ st (HREFV.out.below hW) y.1.pkg
        simp only [HD3.out, HL.out.s, ← HL.out.p.1, ← HL.out.p.2.1, ← HL.out.p.2.2] at his
        have HHO := hdL hho; have HIS := hdL his; clear hwy hho his
        go_upto_region 22 with fail
        go_cut [130] (fun x wx => x = .bool false ∧ Hid (Below V.heap.size V wx))
        case first =>
         by_cases hs0 : sg = 0
         ·subst hs0
          obtain ⟨ι, F', hF0, hFB, hFG⟩ := below_fam V
          have hcF : ∀ a v, V.cell? a = some v → ∀ n, (F' n).cell? a = some v := fun a v h n => bkp (hFB n) _ _ h
          have x0 := hcF _ _ (cOh HX9V.out 0)
          have x1 := hcF _ _ (cOh HX9V.out 1)
          have x2 := hcF _ _ (cOh HX9V.out 2)
          have x3 := hcF _ _ (cOh HX9V.out 3)
          have x4 := hcF _ _ (cOh HX9V.out 4)
          have x5 := hcF _ _ (cOh HX9V.out 5)
          have x6 := hcF _ _ (cOh HX9V.out 6)
          have x7 := hcF _ _ (cOh HX9V.out 7)
          have x8 := hcF _ _ (cOh HX9V.out 8)
          have x9 := hcF _ _ (cOh HX9V.out 9)
          have m0 := hcF _ _ (cOh HX6V.out 0)
          have m1 := hcF _ _ (cOh HX6V.out 1)
          have HC1 := hdL (calls_fam hFB hFG HIS.out)
          have HF0 := hdL hF0; have HFB := hdL hFB; clear hF0 hFB hFG hcF
          obtain ⟨m0', hn0⟩ := HF0.out 1
          have hne : Nonempty ι := ⟨m0'⟩
          refine wp_region_fam F' m0' hn0 (by kernel_rfl) (by kernel_rfl) ?_
          repeat (go_big_quiet_step ((go_at_call 18; exact HC1.out _)))
          refine wpQuiet_nil ?_
          intro _ hw'
          obtain ⟨m1, hw''⟩ := hw'
          subst hw''
          go_wp2_with fail
          go_meet
          exact ⟨rfl, HFB.out m1⟩
         ·have hsp : 0 < sg := by omega
          have hdz : decide (sg = 0) = false := decide_eq_false hs0
          have hz : ((sg : Int) == 0) = false := by simp; exact hs0
          have his2 := HIS.out; have hho2 := HHO.out
          simp only [hdz] at his2
          simp only [show (y.1.choice.1, y.1.choice.2) = y.1.choice from rfl, HDB.out hsp] at hho2
          obtain ⟨ι, F', hF0, hFB, hFG⟩ := below_fam V
          have hcF : ∀ a v, V.cell? a = some v → ∀ n, (F' n).cell? a = some v := fun a v h n => bkp (hFB n) _ _ h
          have x0 := hcF _ _ (cOh HX9V.out 0)
          have x1 := hcF _ _ (cOh HX9V.out 1)
          have x2 := hcF _ _ (cOh HX9V.out 2)
          have x3 := hcF _ _ (cOh HX9V.out 3)
          have x4 := hcF _ _ (cOh HX9V.out 4)
          have x5 := hcF _ _ (cOh HX9V.out 5)
          have x6 := hcF _ _ (cOh HX9V.out 6)
          have x7 := hcF _ _ (cOh HX9V.out 7)
          have x8 := hcF _ _ (cOh HX9V.out 8)
          have x9 := hcF _ _ (cOh HX9V.out 9)
          have m0 := hcF _ _ (cOh HX6V.out 0)
          have m1 := hcF _ _ (cOh HX6V.out 1)
          have HC1 := hdL (calls_fam hFB hFG his2)
          have HC2 := hdL (calls_fam hFB hFG hho2)
          clear his2 hho2 hdz
          have HF0 := hdL hF0; have HFB := hdL hFB; clear hF0 hFB hFG hcF
          obtain ⟨m0', hn0⟩ := HF0.out 1
          have hne : Nonempty ι := ⟨m0'⟩
          refine wp_region_fam F' m0' hn0 (by kernel_rfl) (by kernel_rfl) ?_
          repeat (go_big_quiet_step ((first | (go_at_call 18; exact HC1.out _) | (go_at_call 19; exact HC2.out _))))
          refine wpQuiet_nil ?_
          intro _ hw'
          obtain ⟨m1, hw''⟩ := hw'
          subst hw''
          go_wp2_with fail
          go_meet
          exact ⟨rfl, HFB.out m1⟩
        case rest =>
         obtain ⟨U, hU⟩ : ∃ W, W = wc := ⟨_, rfl⟩
         subst hU
         obtain ⟨rfl, hbu⟩ := hcut
         have h8U := H8V.out.trans (hbu.out.mono H8V.out.size)
         have HX8U := hdL ((hbu.out.block _ (loh HX8V.out)).trans HX8V.out); have HX9U := hdL ((hbu.out.block _ (loh HX9V.out)).trans HX9V.out); have G3U := hdL ((hbu.out.block _ (loh G3V.out)).trans G3V.out); have HROU := hdL ((KT.below hbu.out).owns HROV.out); have H8U := hdL h8U; clear h8U hbu
         have hqe := eqPk2 y.1.pkg q HL.out.s HQP.out.1
         rw [← HL.out.p.1, ← HL.out.p.2.1, ← HL.out.p.2.2, ← HQP.out.2.1, ← HQP.out.2.2.1, ← HQP.out.2.2.2] at hqe
         obtain ⟨nb0, hnb0⟩ : ∃ b, b = decide (y.1.pkg = q) := ⟨_, rfl⟩
         rw [← hnb0] at hqe
         have hd5 := HD5.out
         rw [← hnb0] at hd5
         obtain ⟨nr, hnr⟩ : ∃ z, z = n - (j + 1) := ⟨_, rfl⟩
         have hnr40 : nr ≤ 40 := by omega
         obtain ⟨aR, cR, hif⟩ : ∃ (aR : Option Addr) (cR : Nat), ((c = j + 1 ∧ aR = some ⟨bR, oR, none⟩ ∧ cR = 0) ∨ (¬ c = j + 1 ∧ aR = some ⟨bR, oR + (j + 1) * 10, none⟩ ∧ cR = c - (j + 1))) := by
          by_cases hc : c = j + 1
          ·exact ⟨_, _, .inl ⟨hc, rfl, rfl⟩⟩
          ·exact ⟨_, _, .inr ⟨hc, rfl, rfl⟩⟩
         have hsl := sl10 bR oR n c (j + 1) aR cR nr (by omega) hncap (by omega) hnr.symm hif
         have hjj : ((j + 1 : Nat) : Int) = (j : Int) + 1 := by omega
         rw [hjj] at hsl
         have hwj : IntKind.i64.wrap ((j : Int) + 1) = (j : Int) + 1 := IntWalk.i64_in _ (by omega)
         have HIF := hdL hif; have HNR := hdL hnr; have HD5B := hdL hd5; clear hif hnr hd5 hnb0 hjj
         obtain ⟨j0, j1⟩ := cells2 HX8U.out
         obtain ⟨f0, f1, f2, f3, f4, f5, f6, f7, f8, f9⟩ := cells10 HX9U.out
         obtain ⟨e0, e1, e2, e3⟩ := cells4 G3U.out
         go_wp2_with fail
         clear hsl hwj hqe j0 j1 f0 f1 f2 f3 f4 f5 f6 f7 f8 f9 e0 e1 e2 e3
         go_loopw [16, 141] (fun bv i wr => ∃ (r : Nat) (nb : Bool), bv = .bool nb ∧ i = .int .i64 r ∧ r ≤ nr ∧ Hid (nb = (nb0 || ((pl.drop (j + 1)).take r).any fun z => usesB z y.1.pkg)) ∧ Hid (Below U.heap.size U wr)) (fun _ i _ => nr - (intOf i).toNat)
         case atStart => exact ⟨0, nb0, rfl, rfl, Nat.zero_le _, hdL (by simp), hdL (Below.refl _ _)⟩
         case round =>
          obtain ⟨r, nb', rfl, rfl, hr, hnb', hbx⟩ := hrel
          obtain ⟨X0, hX0⟩ : ∃ W, W = wr := ⟨_, rfl⟩
          subst hX0
          have h8x := H8U.out.trans (hbx.out.mono H8U.out.size)
          have HX9x := hdL ((hbx.out.block _ (loh HX9U.out)).trans HX9U.out); have H8X := hdL h8x; clear h8x
          by_cases hlt3 : r < nr
          ·obtain ⟨u, hx⟩ : ∃ x, os[j + 1 + r]? = some x := ⟨_, gEg (by rw [← HOL.out]; have := HNR.out; omega)⟩
           have hup : pl[j + 1 + r]? = some u.1 := by rw [← HMP.out, List.getElem?_map, hx]; rfl
           have hst := (HALL.out _ _ hup).2.1
           have hE3 := HOS.out.below H8X.out
           obtain ⟨bbu, oou, Su', Tu', hae, hS', hT', hwu, c0, c1, c2, c3, c4, c5, c6, c7, c8, c9⟩ := (hE3).cells hx
           obtain ⟨rfl, rfl⟩ : bR = bbu ∧ oR = oou := by have := sIj hae; injection this with h1 h2 h3; exact ⟨h1, h2⟩
           obtain ⟨Su, Tu, p1u, p2u, p3u, sgu, t1u, t2u, t3u, n9u, hlu⟩ := ent_let u.1
           obtain rfl : Su' = Su := by rw [hlu.s] at hS'; injection hS' with hS'; exact hS'.symm
           obtain rfl : Tu' = Tu := by rw [hlu.t] at hT'; injection hT' with hT'; exact hT'.symm
           rw [← hlu.p.1] at c1; rw [← hlu.p.2.1] at c2; rw [← hlu.p.2.2] at c3; rw [← hlu.g] at c4; rw [← hlu.c.1] at c6; rw [← hlu.c.2.1] at c7; rw [← hlu.c.2.2] at c8; rw [← hlu.n] at c9
           obtain ⟨axu, haxu⟩ : ∃ v, v = u.2.1 := ⟨_, rfl⟩
           obtain ⟨cxu, hcxu⟩ : ∃ v, v = u.2.2 := ⟨_, rfl⟩
           rw [← haxu, ← hcxu] at c9
           rw [← hlu.g] at hst
           have hne : ¬ c = j + 1 := by have := HNR.out; omega
           obtain ⟨haR, hcR⟩ := (HIF.out.resolve_left (fun h => hne h.1)).2
           have hoo : oR + (j + 1) * 10 + r * 10 = oR + (j + 1 + r) * 10 := by omega
           rw [← hoo] at c0 c1 c2 c3 c4 c5 c6 c7 c8 c9
           have htk : ((pl.drop (j + 1)).take (r + 1)).any (fun z => usesB z y.1.pkg) = (((pl.drop (j + 1)).take r).any (fun z => usesB z y.1.pkg) || usesB u.1 y.1.pkg) := by
            have hd : (pl.drop (j + 1))[r]? = some u.1 := by rw [List.getElem?_drop]; exact hup
            rw [List.take_add_one, hd]; simp
           have heq := eqPk2 u.1.choice.1 y.1.pkg hlu.t HL.out.s
           rw [← hlu.c.1, ← hlu.c.2.1, ← hlu.c.2.2, ← HL.out.p.1, ← HL.out.p.2.1, ← HL.out.p.2.2] at heq
           obtain ⟨b1', hb1'⟩ : ∃ b, b = decide (u.1.choice.1 = y.1.pkg) := ⟨_, rfl⟩
           obtain ⟨b2', hb2'⟩ : ∃ b, b = inP u.1.choice.2 y.1.pkg := ⟨_, rfl⟩
           have hub : usesB u.1 y.1.pkg = if sgu = 0 then false else b1' || b2' := by unfold usesB; rw [hlu.g, hb1', hb2']
           rw [← hb1'] at heq
           rw [hub] at htk
           obtain ⟨w15, hw15, hb15, hx15, z1, z2⟩ := aBk X0 #[.string Su', .int .i64 p1u, .int .i64 p2u, .int .i64 p3u, .int .i64 sgu, .string Tu', .int .i64 t1u, .int .i64 t2u, .int .i64 t3u, .slice axu n9u cxu] 45
           obtain ⟨b15, hb15e⟩ : ∃ b, X0.heap.size = b := ⟨_, rfl⟩
           rw [hb15e] at hx15
           have g9 := (hb15.block _ (loh HX9x.out)).trans HX9x.out
           have hin := rin2_any w15 _ _ _ (hwu.below hb15) y.1.pkg
           rw [← hb2', HL.out.s, ← HL.out.p.1, ← HL.out.p.2.1, ← HL.out.p.2.2, ← hlu.n, ← haxu, ← hcxu] at hin
           have HTK := hdL htk; have HIN := hdL hin; have HB15 := hdL (hbx.out.trans (hb15.mono hbx.out.size)); have HAR := hdL haR
           obtain ⟨f0, f1, f2, f3, f4, f5, f6, f7, f8, f9⟩ := cells10 hx15
           obtain ⟨d0, d1, d2, d3, d4, d5, d6, d7, d8, d9⟩ := cells10 g9
           clear hx hup hE3 hae hS' hT' hwu hlu haxu hcxu htk hub hb1' hb2' hin hb15 hx15 g9 hne hcR hoo z1 z2
           cases nb'
           ·by_cases hs0 : sgu = 0
            ·subst hs0
             have hg0 : ¬ (0 : Int) < 0 := by omega
             go_wp2_with fail
             go_roundw
             case rel => exact ⟨r + 1, false, rfl, by go_num, hlt3, hdL (by rw [HTK.out, ← Bool.or_assoc, ← hnb'.out]; simp), HB15⟩
             case measure => first | (simp [intOf]; done) | (simp [intOf]; omega)
            ·have hg0 : 0 < sgu := by omega
             cases b1'
             ·go_wp2_with fail
              refine HIN.out.mono ?_
              rintro e w16 ⟨rfl, h16⟩
              have HB16 := hdL (HB15.out.trans (h16.mono HB15.out.size)); clear h16 haR
              go_wp2_with fail
              go_roundw
              case rel => exact ⟨r + 1, b2', rfl, by go_num, hlt3, hdL (by rw [HTK.out, ← Bool.or_assoc, ← hnb'.out]; rw [if_neg hs0]; simp), HB16⟩
              case measure => first | (simp [intOf]; done) | (simp [intOf]; omega)
             ·go_wp2_with fail
              go_roundw
              case rel => exact ⟨r + 1, true, rfl, by go_num, hlt3, hdL (by rw [HTK.out, ← Bool.or_assoc, ← hnb'.out]; rw [if_neg hs0]; simp), HB15⟩
              case measure => first | (simp [intOf]; done) | (simp [intOf]; omega)
           ·go_wp2_with fail
            go_roundw
            case rel => exact ⟨r + 1, true, rfl, by go_num, hlt3, hdL (by rw [HTK.out, ← Bool.or_assoc, ← hnb'.out]; simp), HB15⟩
            case measure => first | (simp [intOf]; done) | (simp [intOf]; omega)
          ·obtain rfl : r = nr := by omega
           have hnt : nb' = true := by
            have h1 := hnb'.out
            rw [tLe (by have h2 := HMP.out; rw [List.length_drop, ← h2, List.length_map, ← HOL.out, HNR.out]; exact Nat.le_refl _)] at h1
            rw [h1]; exact HD5B.out
           subst hnt
           obtain ⟨w17, hw17, hb17, hx17, z1, z2⟩ := aBk X0 #[.string S', .int .i64 p1, .int .i64 p2, .int .i64 p3] 41
           obtain ⟨b17, hb17e⟩ : ∃ b, X0.heap.size = b := ⟨_, rfl⟩
           rw [hb17e] at hx17
           have hpk : (pkL y.1.pkg).toArray = #[.string S', .int .i64 p1, .int .i64 p2, .int .i64 p3] := by unfold pkL; rw [HL.out.s, ← HL.out.p.1, ← HL.out.p.2.1, ← HL.out.p.2.2]
           rw [← hpk] at hx17
           have hown := ownsC_below ((KT.below hbx.out).owns HROU.out) hb17
           try dsimp only at hown
           have hlen : ((pl.take j).map Ent.pkg).length = j := by rw [List.length_map, List.length_take]; have := HMP.out; have h2 := HOL.out; rw [← this, List.length_map, ← h2]; omega
           rw [hlen] at hown
           have hbase : w8.heap.size ≤ w17.heap.size := by have h1 := H8X.out.size; have h2 := hb17.size; omega
           have HOW := hdL hown; have HSRC := hdL (src_pkb hx17); have HB17 := hdL hb17; have HBASE := hdL hbase; have HLEN := hdL hlen; clear hown hx17 hb17 hbase hlen hpk z1 z2
           obtain ⟨f0, f1, f2, f3, f4, f5, f6, f7, f8, f9⟩ := cells10 HX9x.out
           go_wp2_with (first | (at_builtin; refine wpList_append_c rfl (.tmp 170) (.tmp 173) 22 22 rfl w8.heap.size 41 iP _ 4 40 Tryz.underlying22 HI.out.1 HI.out.2.1 HI.out.2.2.1 HI.out.2.2.2 rfl (.slice ar j cr) rfl j _ HOW.out (.slice (some ⟨b17, 0, none⟩) 1 1) rfl 1 _ HSRC.out (by unfold maxLen; omega) (by omega) HBASE.out ?_; intro a' c' w18 ho hgr hw; have HO := hdL ho; have HG := hdL hgr; have HW := hdL hw; clear ho hgr hw) | fail)
           go_roundw
           case rel =>
            refine ⟨j + 1, a', c', rfl, by go_num, hlt, hdL ?_, hdL ?_⟩
            ·unfold PRow
             dsimp only
             rw [HTK.out, lAp, lSg, HLEN.out, List.flatMap_append, List.flatMap_singleton]
             exact HO.out
            ·have h1 := H8X.out.trans (HB17.out.mono H8X.out.size)
             exact h1.grown HG.out h1.size (fun g hg => (oCk HOW.out hg).1)
           case measure => first | (simp [intOf]; done) | (simp [intOf]; omega)
    ·obtain rfl : k = n := by omega
     have hrow2 := hrow.out
     have htl : pl.take k = pl := tLe (by rw [← HMP.out, List.length_map, ← HOL.out]; exact Nat.le_refl _)
     rw [htl] at hrow2
     have hat := PRow.at hrow2 (by show (pl.map Ent.pkg).length ≤ _; rw [List.length_map]; have := HFW.out.1; omega)
     dsimp only at hat
     have hin := rin2_any W0 _ _ _ hat q
     have hln : (pl.map Ent.pkg).length = k := by rw [List.length_map, ← HMP.out, List.length_map, ← HOL.out]
     rw [HINQ.out, HQP.out.1, ← HQP.out.2.1, ← HQP.out.2.2.1, ← HQP.out.2.2.2] at hin
     have HIN := hdL hin; have G30 := hdL ((hbw.out.block _ (loh G38.out)).trans G38.out); have HB0 := hdL (HB8.out.trans (hbw.out.mono HB8.out.size)); clear hrow2 htl hat hin hln
     obtain ⟨e0, e1, e2, e3⟩ := cells4 G30.out
     go_wp2_with fail
     refine HIN.out.mono ?_
     rintro e w19 ⟨rfl, h19⟩
     have HBF := hdL (HB0.out.trans (h19.mono HB0.out.size)); clear h19
     go_wp2_with fail
     go_ret
     exact ⟨rfl, HBF.out⟩
  ·have hpn : ((pe : Int) != 0) = true := by simp; exact hpe
   obtain rfl : n = 0 := by rw [HOL.out]; have := congrArg List.length HMP.out; rw [List.length_map, plan_not0 HPL.out hpe] at this; exact this
   clear hpe
   go_wp2_with fail
   go_ret
   exact ⟨rfl, HB8.out⟩
end Go.Proofs.YtaagkndhgicifaaGreat
