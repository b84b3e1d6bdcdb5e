/- DERIVED. ErrNoBootstrap is answered only beside a set that stands in the way: PlanMisses, walked. (Printed by plmissgen.py.) -/
import Derived.Test.YtaagkndhgicifaaGreatPlnAl
import Derived.Test.YtaagkndhgicifaaGreatPlnBeg
import Derived.Test.YtaagkndhgicifaaGreatPlnLawB
namespace Go.Proofs.YtaagkndhgicifaaGreat
set_option maxHeartbeats 32000000
open Go.RowKit Go.Shelf
set_option linter.unusedVariables false
set_option linter.unusedSimpArgs false
set_option maxRecDepth 100000
theorem plan_less {st : St} {q : Pk} {left : Int} {pl : List Ent} {pls : List Pk} {pe : Int} (h : (pl, pls, pe) = planT st q left) :
  (pe ≠ 61 → pls = []) ∧ (pe = 61 → pl = [] ∧ inP pls q = true ∧ ∀ p ∈ pls, st.has p = true ∧ st.isSeed p = false ∧ ∀ c n e lf, solveT st p (st.all.filter fun x => !inP pls x) lf = (c, n, e) → e = 12 ∨ e = 60) := by
 rcases planT_cases st q left with ⟨-, g⟩ | ⟨-, -, g⟩ | ⟨L, l, m, hh, hf, hp, g⟩ | ⟨L, l, m, -, hf, -, g⟩
 ·rw [g] at h; injection h with h1 h2; injection h2 with h2 h3; subst h1 h2 h3; exact ⟨fun _ => rfl, fun e => absurd e (by decide)⟩
 ·rw [g] at h; injection h with h1 h2; injection h2 with h2 h3; subst h1 h2 h3; exact ⟨fun _ => rfl, fun e => absurd e (by decide)⟩
 ·rw [g] at h; injection h with h1 h2; injection h2 with h2 h3; subst h1 h2 h3
  exact ⟨fun e => absurd rfl e, fun _ => ⟨rfl, inP_iff.2 (less_miss hf hh hp), fun p hp => ⟨(less_rest hf hp (lf := 0) rfl).1, (less_rest hf hp (lf := 0) rfl).2.1, fun c n e lf hs => (less_rest hf hp hs).2.2⟩⟩⟩
 ·rw [g] at h; injection h with h1 h2; injection h2 with h2 h3; subst h1 h2 h3; exact ⟨fun _ => rfl, fun e => absurd e (by decide)⟩
theorem filt_take {f : Pk → Bool} {l : List Pk} {k : Nat} {q : Pk} (h : l[k]? = some q) : (l.take (k + 1)).filter f = (l.take k).filter f ++ (if f q = true then [q] else []) := by
 rw [List.take_add_one, h, List.filter_append]
 congr 1
 by_cases hf : f q = true <;> simp [hf]
theorem misses17_any (w : World) (v1 v2 : Value) (x : Pack) (hx : PackAt w v1 v2 x) (q : Pk) : Calls Tryz.prog 11 #[.agg #[v1, v2], .agg #[strV q.1, .int .i64 q.2.1, .int .i64 q.2.2.1, .int .i64 q.2.2.2]] w (fun e w' => e = .returned (.bool true) ∧ Below w.heap.size w w') := by
 obtain ⟨a0, c0, rfl, -⟩ := id hx.1
 obtain ⟨a5, c5, rfl, -⟩ := id hx.2.2
 obtain ⟨P, -, hP, -, -⟩ := strV_is q.1
 obtain ⟨n0, hn0⟩ : ∃ z, z = x.seeds.length := ⟨_, rfl⟩
 obtain ⟨n5, hn5⟩ : ∃ z, z = x.recs.length := ⟨_, rfl⟩
 obtain ⟨u1, hu1⟩ : ∃ z, z = q.2.1 := ⟨_, rfl⟩
 obtain ⟨u2, hu2⟩ : ∃ z, z = q.2.2.1 := ⟨_, rfl⟩
 obtain ⟨u3, hu3⟩ : ∃ z, z = q.2.2.2 := ⟨_, rfl⟩
 rw [← hn0, ← hn5] at hx; rw [← hn0, ← hn5, hP, ← hu1, ← hu2, ← hu3]
 obtain ⟨w1, hw1, hb1, hx1, y1, y2⟩ := aBk w #[.slice a0 n0 c0, .slice a5 n5 c5] 79
 obtain ⟨w3, hw3, hb3, hx3, y3, y4⟩ := aBk w1 #[.string P, .int .i64 u1, .int .i64 u2, .int .i64 u3] 41
 obtain ⟨b2, hb2e⟩ : ∃ b, w.heap.size = b := ⟨_, rfl⟩
 obtain ⟨b3, hb3e⟩ : ∃ b, w1.heap.size = b := ⟨_, rfl⟩
 have hb13 := hb1.trans (hb3.mono hb1.size)
 have g1 := (hb3.block _ (by omega)).trans hx1
 rw [hb2e] at g1; rw [hb3e] at hx3
 have G23 := hdL g1; have G33 := hdL hx3; have HB3 := hdL hb13; have HX := hdL hx; have HQP := hdL (And.intro hP (And.intro hu1 (And.intro hu2 hu3)))
 clear hx hn0 hn5 hP hu1 hu2 hu3 hb1 hb3 hb13 hx1 hx3 g1 y1 y2 y3 y4
 go_enter Tryz.func11, Tryz.ntmps11
 go_wp2_with fail
 refine (alive17_any w3).mono ?_
 rintro e w4 ⟨rfl, h4⟩
 have G24 := hdL ((h4.block _ (loh G23.out)).trans G23.out); have G34 := hdL ((h4.block _ (loh G33.out)).trans G33.out)
 have HB4 := hdL (HB3.out.trans (h4.mono HB3.out.size)); clear h4
 obtain ⟨k0, k1⟩ := cells2 G24.out
 have HBG := hdL (begun17_any w4 _ _ x (HX.out.below HB4.out))
 go_wp2_with fail
 refine HBG.out.mono ?_
 rintro e w5 ⟨h5, B, a1, n1, c1, a2, n2, c2, ok, rfl, hok⟩
 obtain ⟨w6, hw6, hb6, hx6, y1, y2⟩ := aBk w5 #[.slice a1 n1 c1, .slice a2 n2 c2] 28
 obtain ⟨b6, hb6e⟩ : ∃ b, w5.heap.size = b := ⟨_, rfl⟩
 rw [hb6e] at hx6
 have h46 := h5.trans (hb6.mono h5.size)
 have G36 := hdL ((h46.block _ (loh G34.out)).trans G34.out); have HB6 := hdL (HB4.out.trans (h46.mono HB4.out.size)); have HX6 := hdL hx6; have HB56 := hdL hb6
 clear h5 hb6 h46 hx6 y1 y2 k0 k1
 cases ok
 ·go_wp2_with fail
  go_ret
  exact ⟨rfl, HB6.out⟩
 ·obtain ⟨st, F, hbeg⟩ := hok rfl
  have HBE := hdL (hbeg.below HB56.out)
  clear hok hbeg
  obtain ⟨⟨pl, pls, pe⟩, hpl⟩ : ∃ r, r = planT st q 600 := ⟨_, rfl⟩
  have hfw := plan_few HBE.out.few q 600
  rw [← hpl] at hfw
  dsimp only at hfw
  obtain ⟨hl1, hl2⟩ := plan_less hpl
  have hpm := pmake_any w6 B F st HBE.out.stk 600 (by decide) q
  rw [← hpl, HQP.out.1, ← HQP.out.2.1, ← HQP.out.2.2.1, ← HQP.out.2.2.2] at hpm
  have HPM := hdL hpm; have HFW := hdL hfw; have HL1 := hdL hl1; have HL2 := hdL hl2; clear hpm hpl hfw hl1 hl2
  obtain ⟨e0, e1, e2, e3⟩ := cells4 G36.out
  go_wp2_with fail
  refine HPM.out.mono ?_
  intro e w7 hpp
  obtain ⟨h7, a, n, c, os, al, nl, cl, rfl, hos, hmp, hnl, hrw⟩ := hpp
  dsimp only at hmp hnl hrw ⊢
  obtain ⟨w8, hw8, hb8, hx8, y1, y2⟩ := aBk w7 #[.slice a n c, .slice al nl cl] 81
  obtain ⟨b8, hb8e⟩ : ∃ b, w7.heap.size = b := ⟨_, rfl⟩
  rw [hb8e] at hx8
  have h68 := h7.trans (hb8.mono h7.size)
  have href := (HBE.out.ref.below h68).keep (Z' := zAll) ⟨fun _ _ _ => trivial, Nat.le_refl _, fun _ _ _ h => h⟩
  have hat := PRow.at ((KT.below hb8).owns hrw : PRow w6.heap.size w8 (.slice al nl cl, pls)) (by show pls.length ≤ _; have := HFW.out.2; omega)
  dsimp only at hat
  have HREF := hdL href; have HPLS := hdL hat; have HMP := hdL (And.intro hos.1 hmp); have HNL := hdL hnl; have G38 := hdL ((h68.block _ (loh G36.out)).trans G36.out); have HX68 := hdL ((h68.block _ (loh HX6.out)).trans HX6.out); have HX8 := hdL hx8; have HB8 := hdL (HB6.out.trans (h68.mono HB6.out.size))
  clear h7 hos hmp hnl hrw hb8 hx8 h68 href hat y1 y2 e0 e1 e2 e3
  obtain ⟨j0, j1⟩ := cells2 HX8.out
  by_cases hpe : pe = 61
  ·obtain ⟨hpl0, hinq, hall⟩ := HL2.out hpe
   subst hpe
   obtain rfl : n = 0 := by rw [HMP.out.1]; have := congrArg List.length HMP.out.2; rw [List.length_map, hpl0] at this; exact this
   have HINQ := hdL hinq; have HALL := hdL hall; clear hpl0 hinq hall
   have hral := rall_any w8 zAll _ st HREF.out (by have := HBE.out.few.1; omega) (by have := HBE.out.few.2; omega)
   have HRAL := hdL hral; clear hral
   obtain ⟨k0, k1⟩ := cells2 HX68.out
   go_wp2_with fail
   refine HRAL.out.mono ?_
   rintro e w9 ⟨vA, rfl, hra, h9⟩
   obtain ⟨aA, cA, rfl⟩ := hra.form
   obtain ⟨nA, hnA⟩ : ∃ n, n = st.all.length := ⟨_, rfl⟩
   rw [← hnA] at hra ⊢
   have hnA40 : nA ≤ 40 := by have h1 := all_len st; have h2 := HBE.out.few; omega
   have hatA : PkgsAt (zNew w8.heap.size) w9 (.slice aA nA cA) st.all := by rw [hnA] at hra ⊢; exact PkRow.at hra (by omega)
   have HALA := hdL hatA; have HNA := hdL hnA; have G39 := hdL ((h9.block _ (loh G38.out)).trans G38.out); have HX69 := hdL ((h9.block _ (loh HX68.out)).trans HX68.out); have HX9 := hdL ((h9.block _ (loh HX8.out)).trans HX8.out); have HR9 := hdL (HREF.out.below h9); have HP9 := hdL (HPLS.out.below h9); have HB9 := hdL (HB8.out.trans (h9.mono HB8.out.size))
   clear h9 hra hatA hnA j0 j1 k0 k1
   obtain ⟨iP, hiP, hzP0, hzP1, hzP2⟩ := info_parts infoPkg
   have HI := hdL (And.intro hiP (And.intro hzP0 (And.intro hzP1 hzP2))); clear hiP hzP0 hzP1 hzP2
   have hnl40 : nl ≤ 40 := by rw [HNL.out]; exact HFW.out.2
   go_wp2_with fail
   go_loopw [10, 43] (fun o i wr => ∃ (k : Nat) (ar : Option Addr) (nr cr : Nat), o = .slice ar nr cr ∧ i = .int .i64 k ∧ k ≤ nA ∧ nr ≤ k ∧ Hid (nr = ((st.all.take k).filter fun x => !inP pls x).length) ∧ Hid (PRow w9.heap.size wr (.slice ar nr cr, (st.all.take k).filter fun x => !inP pls x)) ∧ Hid (Below w9.heap.size w9 wr)) (fun _ i _ => nA - (intOf i).toNat)
   case atStart => exact ⟨0, none, 0, 0, rfl, rfl, Nat.zero_le _, Nat.le_refl _, hdL rfl, hdL (PRow.nil _ _), hdL (Below.refl _ _)⟩
   case round =>
    obtain ⟨k, ar, nr, cr, rfl, rfl, hk, hnk, hnr, hrow, hbw⟩ := hrel
    obtain ⟨W0, hW0⟩ : ∃ W, W = wr := ⟨_, rfl⟩
    subst hW0
    by_cases hlt : k < nA
    ·obtain ⟨p, hp⟩ : ∃ p, st.all[k]? = some p := ⟨_, gEg (by rw [← HNA.out]; exact hlt)⟩
     obtain ⟨b, o, S, rfl, hS, c0', c1', c2', c3'⟩ := (HALA.out.below hbw.out).cells hp
     obtain ⟨s1, hs1⟩ : ∃ z, z = p.2.1 := ⟨_, rfl⟩
     obtain ⟨s2, hs2⟩ : ∃ z, z = p.2.2.1 := ⟨_, rfl⟩
     obtain ⟨s3, hs3⟩ : ∃ z, z = p.2.2.2 := ⟨_, rfl⟩
     rw [← hs1] at c1'; rw [← hs2] at c2'; rw [← hs3] at c3'
     obtain ⟨w10, hw10, hb10, hx10, z1, z2⟩ := aBk W0 #[.string S, .int .i64 s1, .int .i64 s2, .int .i64 s3] 41
     obtain ⟨b10, hb10e⟩ : ∃ b, W0.heap.size = b := ⟨_, rfl⟩
     rw [hb10e] at hx10
     have h910 := hbw.out.trans (hb10.mono hbw.out.size)
     have hin := rin2_any w10 _ _ _ (HP9.out.below h910) p
     rw [hS, ← hs1, ← hs2, ← hs3] at hin
     obtain ⟨rb, hrb⟩ : ∃ r, r = inP pls p := ⟨_, rfl⟩
     rw [← hrb] at hin
     have hft := filt_take (f := fun x => !inP pls x) hp
     try dsimp only at hft
     rw [← hrb] at hft
     have hpk : (pkL p).toArray = #[.string S, .int .i64 s1, .int .i64 s2, .int .i64 s3] := by unfold pkL; rw [hS, ← hs1, ← hs2, ← hs3]
     have HIN := hdL hin; have HFT := hdL hft; have HPK := hdL hpk; have HX10 := hdL hx10; have H910 := hdL h910; have HRO := hdL ((KT.below hb10).owns hrow.out)
     have HX80 := hdL ((h910.block _ (loh HX9.out)).trans HX9.out)
     clear hp hS hs1 hs2 hs3 hb10 hx10 h910 hin hrb hft hpk z1 z2
     obtain ⟨j0, j1⟩ := cells2 HX80.out
     obtain ⟨f0, f1, f2, f3⟩ := cells4 HX10.out
     go_wp2_with fail
     refine HIN.out.mono ?_
     rintro e w11 ⟨rfl, h11⟩
     have HX11 := hdL ((h11.block _ (loh HX10.out)).trans HX10.out); have H911 := hdL (H910.out.trans (h11.mono H910.out.size)); have HRO1 := hdL ((KT.below h11).owns HRO.out)
     clear h11 j0 j1 f0 f1 f2 f3 c0' c1' c2' c3'
     cases rb
     ·obtain ⟨w12, hw12, hb12, hx12, z1, z2⟩ := aBk w11 #[.string S, .int .i64 s1, .int .i64 s2, .int .i64 s3] 41
      obtain ⟨b12, hb12e⟩ : ∃ b, w11.heap.size = b := ⟨_, rfl⟩
      rw [hb12e] at hx12
      rw [← HPK.out] at hx12
      have hown := ownsC_below HRO1.out hb12
      try dsimp only at hown
      rw [← hnr.out] at hown
      have hbase : w9.heap.size ≤ w12.heap.size := by have h1 := H911.out.size; have h2 := hb12.size; omega
      have HOW := hdL hown; have HSRC := hdL (src_pkb hx12); have HB12 := hdL hb12; have HBASE := hdL hbase
      clear hown hx12 hb12 z1 z2 hbase
      obtain ⟨f0, f1, f2, f3⟩ := cells4 HX11.out
      go_wp2_with (first | (at_builtin; refine wpList_append_c rfl (.tmp 52) (.tmp 54) 22 22 rfl w9.heap.size 41 iP _ 4 40 Tryz.underlying22 HI.out.1 HI.out.2.1 HI.out.2.2.1 HI.out.2.2.2 rfl (.slice ar nr cr) rfl nr _ HOW.out (.slice (some ⟨b12, 0, none⟩) 1 1) rfl 1 _ HSRC.out (by unfold maxLen; omega) (by omega) HBASE.out ?_; intro a' c' w13 ho hgr hw; have HO := hdL ho; have HG := hdL hgr; have HW := hdL hw; clear ho hgr hw) | fail)
      go_roundw
      case rel =>
       have hft := HFT.out
       rw [show (!false) = true from rfl, if_pos rfl] at hft
       refine ⟨k + 1, a', nr + 1, c', rfl, by go_num, hlt, by omega, hdL ?_, hdL ?_, hdL ?_⟩
       ·rw [hft, lAp, lSg, ← hnr.out]
       ·unfold PRow
        dsimp only
        rw [hft, lAp, lSg, ← hnr.out, List.flatMap_append, List.flatMap_singleton]
        exact HO.out
       ·have h1 := H911.out.trans (HB12.out.mono H911.out.size)
        exact h1.grown HG.out h1.size (fun g hg => (oCk HOW.out hg).1)
      case measure => simp [intOf]; omega
     ·go_wp2_with fail
      go_roundw
      case rel =>
       have hft := HFT.out
       rw [show (!true) = false from rfl, if_neg (by decide), List.append_nil] at hft
       exact ⟨k + 1, ar, nr, cr, rfl, by go_num, hlt, by omega, hdL (by rw [hft]; exact hnr.out), hdL (by rw [hft]; exact HRO1.out), H911⟩
      case measure => simp [intOf]; omega
    ·obtain rfl : k = nA := by omega
     have hrow2 := hrow.out
     rw [tLe (by rw [← HNA.out]; exact Nat.le_refl _)] at hrow2
     have hnr2 := hnr.out
     rw [tLe (by rw [← HNA.out]; exact Nat.le_refl _)] at hnr2
     obtain ⟨rest, hrest⟩ : ∃ r, r = st.all.filter fun x => !inP pls x := ⟨_, rfl⟩
     rw [← hrest] at hrow2 hnr2
     have hatR := (PRow.at hrow2 (by show rest.length ≤ _; rw [← hnr2]; omega)).keep (Z' := zAll) ⟨fun _ _ _ => trivial, Nat.le_refl _, fun _ _ _ h => h⟩
     dsimp only at hatR
     have HATR := hdL hatR; have HREST := hdL hrest; have HX80 := hdL ((hbw.out.block _ (loh HX9.out)).trans HX9.out); have HX60 := hdL ((hbw.out.block _ (loh HX69.out)).trans HX69.out); have HR0 := hdL (HR9.out.below hbw.out); have HP0 := hdL (HP9.out.below hbw.out); have G30 := hdL ((hbw.out.block _ (loh G39.out)).trans G39.out); have HB0 := hdL (HB9.out.trans (hbw.out.mono HB9.out.size))
     obtain ⟨V, hV⟩ : ∃ V, V = W0 := ⟨_, rfl⟩
     subst hV
     clear hrow2 hnr2 hrest hatR
     obtain ⟨j0, j1⟩ := cells2 HX80.out
     go_wp2_with fail
     clear j0 j1
     go_loopw [60] (fun i wr => ∃ k : Nat, i = .int .i64 k ∧ k ≤ nl ∧ Hid (Below V.heap.size V wr)) (fun i _ => nl - (intOf i).toNat)
     case atStart => exact ⟨0, rfl, Nat.zero_le _, hdL (Below.refl _ _)⟩
     case round =>
      obtain ⟨m, rfl, hm, hbv⟩ := hrel
      obtain ⟨U0, hU0⟩ : ∃ W, W = wr := ⟨_, rfl⟩
      subst hU0
      by_cases hlt2 : m < nl
      ·obtain ⟨p, hp⟩ : ∃ p, pls[m]? = some p := ⟨_, gEg (by rw [← HNL.out]; exact hlt2)⟩
       obtain ⟨h1, h2, h3⟩ := HALL.out p (List.mem_of_getElem? hp)
       obtain ⟨b, o, S, rfl, hS, c0', c1', c2', c3'⟩ := (HP0.out.below hbv.out).cells hp
       obtain ⟨s1, hs1⟩ : ∃ z, z = p.2.1 := ⟨_, rfl⟩
       obtain ⟨s2, hs2⟩ : ∃ z, z = p.2.2.1 := ⟨_, rfl⟩
       obtain ⟨s3, hs3⟩ : ∃ z, z = p.2.2.2 := ⟨_, rfl⟩
       rw [← hs1] at c1'; rw [← hs2] at c2'; rw [← hs3] at c3'
       obtain ⟨Up, hUp, hbp, hxp, z1, z2⟩ := aBk U0 #[.string S, .int .i64 s1, .int .i64 s2, .int .i64 s3] 41
       obtain ⟨bp, hbpe⟩ : ∃ b, U0.heap.size = b := ⟨_, rfl⟩
       rw [hbpe] at hxp
       have hVp := hbv.out.trans (hbp.mono hbv.out.size)
       have hso := rsolve_any Up _ st (HR0.out.below hVp) (by have := HBE.out.few.1; omega) (by have := HBE.out.few.2; omega) HBE.out.good p _ _ (HATR.out.below hVp) 600 (by decide)
       obtain ⟨⟨⟨t, ch⟩, nD, e0⟩, hres⟩ : ∃ r, solveT st p rest 600 = r := ⟨_, rfl⟩
       have he0 := h3 (t, ch) nD e0 600 (by rw [← HREST.out]; exact hres)
       rw [hres, hS, ← hs1, ← hs2, ← hs3] at hso
       have his := fun W (hW : Below Up.heap.size Up W) => riss_any W zAll _ st ((HR0.out.below hVp).below hW) p
       rw [h2, hS, ← hs1, ← hs2, ← hs3] at his
       have hha := fun W (hW : Below Up.heap.size Up W) => rhas2_any W zAll _ st ((HR0.out.below hVp).below hW) p
       rw [h1, hS, ← hs1, ← hs2, ← hs3] at hha
       obtain ⟨f0, f1, f2, f3⟩ := cells4 hxp
       obtain ⟨k0, k1⟩ := cells2 ((hVp.block _ (loh HX60.out)).trans HX60.out)
       have HXP := hdL hxp; have HSO := hdL hso; have HIS := hdL his; have HHA := hdL hha; have HX6p := hdL ((hVp.block _ (loh HX60.out)).trans HX60.out); have HBP := hdL hVp
       clear hp h1 h2 h3 hS hs1 hs2 hs3 hbp hxp hVp hso hres his hha z1 z2
       go_wp2_with fail
       refine HSO.out.mono ?_
       rintro e Uq ⟨hq7, sT, a2', kc, hsT, rfl, -⟩
       dsimp only
       obtain ⟨Ur, hUr, hb8', hx8', z1, z2⟩ := aBk Uq #[.string sT, .int .i64 t.2.1, .int .i64 t.2.2.1, .int .i64 t.2.2.2, .slice a2' ch.length kc] 43
       have h78 := hq7.trans (hb8'.mono hq7.size)
       have HI8 := hdL (HIS.out _ h78)
       obtain ⟨r0, r1, r2, r3⟩ := cells4 ((h78.block _ (loh HXP.out)).trans HXP.out)
       obtain ⟨m0, m1⟩ := cells2 ((h78.block _ (loh HX6p.out)).trans HX6p.out)
       have H78 := hdL h78
       clear hq7 hb8' hx8' h78 hsT z1 z2 f0 f1 f2 f3 k0 k1
       go_wp2_with fail
       refine HI8.out.mono ?_
       rintro e Us ⟨rfl, hs⟩
       have h79 := H78.out.trans (hs.mono H78.out.size)
       have HH9 := hdL (HHA.out _ h79)
       obtain ⟨f0, f1, f2, f3⟩ := cells4 ((h79.block _ (loh HXP.out)).trans HXP.out)
       obtain ⟨k0, k1⟩ := cells2 ((h79.block _ (loh HX6p.out)).trans HX6p.out)
       have H79 := hdL h79
       clear hs h79 r0 r1 r2 r3 m0 m1
       go_wp2_with fail
       refine HH9.out.mono ?_
       rintro e Ut ⟨rfl, ht⟩
       have HBF := hdL (HBP.out.trans ((H79.out.trans (ht.mono H79.out.size)).mono HBP.out.size))
       clear ht
       rcases he0 with rfl | rfl
       ·go_wp2_with fail
        go_roundw
        case rel => exact ⟨m + 1, by go_num, hlt2, HBF⟩
        case measure => simp [intOf]; omega
       ·go_wp2_with fail
        go_roundw
        case rel => exact ⟨m + 1, by go_num, hlt2, HBF⟩
        case measure => simp [intOf]; omega
      ·obtain rfl : m = nl := by omega
       have hin := rin2_any U0 _ _ _ (HP0.out.below hbv.out) q
       rw [HINQ.out, HQP.out.1, ← HQP.out.2.1, ← HQP.out.2.2.1, ← HQP.out.2.2.2] at hin
       have HIN := hdL hin; have HX8u := hdL ((hbv.out.block _ (loh HX80.out)).trans HX80.out); have G3u := hdL ((hbv.out.block _ (loh G30.out)).trans G30.out); have HBU := hdL (HB0.out.trans (hbv.out.mono HB0.out.size)); clear hin
       obtain ⟨j0, j1⟩ := cells2 HX8u.out
       obtain ⟨e0, e1, e2, e3⟩ := cells4 G3u.out
       go_wp2_with fail
       refine HIN.out.mono ?_
       rintro e U1 ⟨rfl, hu⟩
       have HX8w := hdL ((hu.block _ (loh HX8u.out)).trans HX8u.out); have HBX := hdL (HBU.out.trans (hu.mono HBU.out.size)); clear hu j0 j1 e0 e1 e2 e3
       obtain ⟨j0, j1⟩ := cells2 HX8w.out
       go_wp2_with fail
       go_ret
       exact ⟨rfl, HBX.out⟩
  ·have hpn : ((pe : Int) != 61) = true := by simp; exact hpe
   obtain rfl : nl = 0 := by rw [HNL.out, HL1.out hpe]; rfl
   clear hpe
   go_wp2_with fail
   go_ret
   exact ⟨rfl, HB8.out⟩
end Go.Proofs.YtaagkndhgicifaaGreat
