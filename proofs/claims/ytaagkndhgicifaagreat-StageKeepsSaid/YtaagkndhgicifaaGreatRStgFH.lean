/- DERIVED. The reference's Fix of layer 16, walked. (Printed by rfixgen.py.) -/
import Derived.Test.YtaagkndhgicifaaGreatRStgF
import Derived.Test.YtaagkndhgicifaaGreatRStgH
namespace Go.Proofs.YtaagkndhgicifaaGreat
set_option maxHeartbeats 32000000
open Go.RowKit Go.Shelf
set_option linter.unusedVariables false
set_option linter.unusedSimpArgs false
set_option maxRecDepth 100000
variable {w V W : World} {vs ys : Array Value} {b2 b4 b6 : Nat} {x0 x1 x2 vL vL' v v' : Value} {es : List EV} {rs rs' : List (Value × List Pk)} {L : List Pk}
theorem Fr.newRow {r : Value × List Pk} (h : Fr w V vs ys b2 b4 b6 x0 x1 x2 vL es rs) (hb : Below V.heap.size V W) (hr : PRow V.heap.size W r) : Fr w W vs ys b2 b4 b6 x0 x1 x2 vL es (r :: rs) := by
 have h1 := h.below hb
 refine ⟨h1.c2, h1.c4, h1.c6, h1.list, h.rows.new (KT.below hb) (ownsC_mono hr h.bel.size) (fun g hg => (oCk hr hg).1), fun x hx => (h.with_ x hx).keep ⟨fun b hb hh => ⟨hh.1, hh.2.1, hh.2.2.1, fun s hs => ?_⟩, hb.size, fun a u _ hu => bkp hb a u hu⟩, h1.bel, h1.new, h1.new4, h1.ne⟩
 rcases List.mem_cons.1 hs with rfl | hs
 ·intro e
  have := (oCk hr e).1
  omega
 ·exact hh.2.2.2 s hs
theorem Fr.setR {zs : Array Value} (h : Fr w V vs ys b2 b4 b6 x0 x1 x2 vL es rs) (hx : W.heap[b4]? = some (.cells zs 70 (0, 0))) (hc : Ch [b4] V W) : Fr w W vs zs b2 b4 b6 x0 x1 x2 vL es rs := by
 have hb : ∀ b, b < V.heap.size → b ≠ b4 → W.heap[b]? = V.heap[b]? := fun b hb hn => hc.block b hb (fun hm => hn (mSg.1 hm))
 have hk : ∀ T, T ≠ 70 → KT T V W := fun T hT b c f hh => (hb b (loh hh) (fun e => by subst e; rw [h.c4] at hh; exact hT ((Obj.cells.inj (sIj hh)).2.1).symm)).trans hh
 exact ⟨hk _ (by decide) _ _ _ h.c2, hx, (hb b6 (loh h.c6) h.ne.symm).trans h.c6, (hk _ (by decide)).owns h.list, h.rows.kt (hk _ (by decide)), fun x hx => (h.with_ x hx).keep (Keep.of_block (fun _ _ hz => hz) hc.size (fun b hl hz => hb b hl (Nat.ne_of_gt hz.1))), h.bel.trans (boC hc (fun k hk => by rw [mSg.1 hk]; exact h.new4) h.bel.size), h.new, h.new4, h.ne⟩
def RFixP (st : St) (left : Int) (w : World) (e : Ending) (w' : World) : Prop := Below w.heap.size w w' ∧ ∃ (es : List EV) (l : List Pk) (m e0 : Int) (aL : Option Addr) (cL : Nat) (al : Option Addr) (cl : Nat),
 e = .returned (.tuple #[.agg #[.slice aL es.length cL, .slice al l.length cl, .int .i64 m], .int .i64 e0]) ∧ EntsAt (zNew w.heap.size) w' (.slice aL es.length cL) es ∧ PkgsAt (zNew w.heap.size) w' (.slice al l.length cl) l ∧
 (es.length ≤ 100000 ∧ l.length ≤ 100000 ∧ ∀ x ∈ es, x.1.choice.2.length ≤ 100000) ∧ ((fixT st left = none ∧ e0 = 60 ∧ es = [] ∧ l = [] ∧ m = 0) ∨ (e0 = 0 ∧ fixT st left = some (es.map Prod.fst, l, m)))
theorem three_setR {w : World} {B : Nat} {t : TypeId} {y0 y1 y2 : Value} (h : w.heap[B]? = some (.cells #[y0, y1, y2] t (0, 0))) (x0 x1 x2 : Value) : ∃ W, (((w.setCell ⟨B, 0, none⟩ x0).setCell ⟨B, 1, none⟩ x1).setCell ⟨B, 2, none⟩ x2) = W ∧ W.heap[B]? = some (.cells #[x0, x1, x2] t (0, 0)) ∧ Ch [B] w W := by
 have s0 := set_at 0 x0 h (ds := #[x0, y1, y2]) (by simp)
 have s1 := set_at 1 x1 s0 (ds := #[x0, x1, y2]) (by simp)
 have s2 := set_at 2 x2 s1 (ds := #[x0, x1, x2]) (by simp)
 exact ⟨_, rfl, s2, (((Ch.refl [B] w).setCell (p := ⟨B, 0, none⟩) (.inl (List.mem_singleton_self _)) x0).setCell (p := ⟨B, 1, none⟩) (.inl (List.mem_singleton_self _)) x1).setCell (p := ⟨B, 2, none⟩) (.inl (List.mem_singleton_self _)) x2⟩
theorem rfixP_none {st : St} {left : Int} {w w' : World} (h : fixT st left = none) (hb : Below w.heap.size w w') : RFixP st left w (.returned (.tuple #[.agg #[.slice none 0 0, .slice none 0 0, .int .i64 0], .int .i64 60])) w' :=
 ⟨hb, [], [], 0, 60, none, 0, none, 0, rfl, EntsAt.nil, PkgsAt.nil, ⟨Nat.zero_le _, Nat.zero_le _, fun x hx => by cases hx⟩, .inl ⟨h, rfl, rfl, rfl, rfl⟩⟩
theorem rfix_any (w : World) (v : Value) (st : St) (h : RefAt zAll w v st) (hs : st.seeds.length ≤ 8) (hr : st.recs.length ≤ 32) (hg : ∀ r ∈ st.recs, goodRc r = true) (left : Int) (hl : left ≤ 2000) :
  Calls Tryz.prog 31 #[v, .int .i64 left] w (RFixP st left w) := by
 obtain ⟨a1, c1, a2_, c2_, rfl, -, -⟩ := h.form
 obtain ⟨n1, hn1⟩ : ∃ n, n = st.seeds.length := ⟨_, rfl⟩
 obtain ⟨n2_, hn2⟩ : ∃ n, n = st.recs.length := ⟨_, rfl⟩
 rw [← hn1, ← hn2] at h ⊢
 have hall := fun W (hW : Below w.heap.size w W) => rall_any W zAll _ st (h.below hW) (by omega) (by omega)
 have hiss := fun W (hW : Below w.heap.size w W) p => riss_any W zAll _ st (h.below hW) p
 have hsol := fun W (hW : Below w.heap.size w W) p vp pool (hp : PkgsAt zAll W vp pool) lf (hlf : lf ≤ 2000) => rsolve_any W _ st (h.below hW) (by omega) (by omega) hg p vp pool hp lf hlf
 have hal := all_len st
 obtain ⟨w1, hw1, hb1, hx1, y1, y2⟩ := aBk w #[.slice a1 n1 c1, .slice a2_ n2_ c2_] 28
 obtain ⟨w2, hw2, hb2, hx2, y3, y4⟩ := aBk w1 #[.slice none 0 0, .slice none 0 0, .int .i64 0] 70
 obtain ⟨w3, hw3, hb3, hx3, y5, y6⟩ := aBk w2 #[.slice none 0 0, .slice none 0 0, .int .i64 0] 70
 obtain ⟨b2, hb2e⟩ : ∃ b, w.heap.size = b := ⟨_, rfl⟩
 obtain ⟨b4, hb4e⟩ : ∃ b, w1.heap.size = b := ⟨_, rfl⟩
 obtain ⟨b6, hb6e⟩ : ∃ b, w2.heap.size = b := ⟨_, rfl⟩
 have hb12 := hb1.trans (hb2.mono hb1.size)
 have hb13 := hb12.trans (hb3.mono hb12.size)
 have g1 := (hb3.block _ (by omega)).trans ((hb2.block _ (by omega)).trans hx1)
 have g2 := (hb3.block _ (by omega)).trans hx2
 rw [hb2e] at g1; rw [hb4e] at g2; rw [hb6e] at hx3
 obtain ⟨w3', hw3', hx3', hc3⟩ := three_setR hx3 (.slice none 0 0) (.slice none 0 0) (.int .i64 0)
 have g1' := (hc3.block _ (loh g1) (fun hm => by have := mSg.1 hm; omega)).trans g1
 have g2' := (hc3.block _ (loh g2) (fun hm => by have := mSg.1 hm; omega)).trans g2
 have hb13' : Below w.heap.size w w3' := hb13.trans (boC hc3 (fun k hk => by rw [mSg.1 hk]; omega) hb13.size)
 have hs3' : b2 + 3 ≤ w3'.heap.size := by have := hc3.size; omega
 have hfr : Fr w w3' #[.slice a1 n1 c1, .slice a2_ n2_ c2_] #[.slice none 0 0, .slice none 0 0, .int .i64 0] b2 b4 b6 (.slice none 0 0) (.slice none 0 0) (.int .i64 0) (.slice none 0 0) [] [(.slice none 0 0, [])] := ⟨g1', g2', hx3', ownsC_nil _ _ _ _, (PRows.nil _ _).consNil, fun x hx => (by cases hx), hb13', by omega, by omega, by omega⟩
 have HALL := hdL hall; have HISS := hdL hiss; have HSOL := hdL hsol; have HAL := hdL hal; have HN := hdL (And.intro hs hr); have HFR := hdL hfr
 obtain ⟨k0, k1⟩ := cells2 g1'
 obtain ⟨m0, m1, m2⟩ := cells3 hx3
 have mf := foh hx3
 clear h hs hr hg hn1 hn2 hall hiss hsol hal hb1 hb2 hb3 hb12 hb13 hx1 hx2 hx3 g1 g2 g1' g2' hx3' hc3 hb13' hs3' hfr y1 y2 y3 y4 y5 y6
 go_enter Tryz.func31, Tryz.ntmps31
 go_upto_region 2 with fail
 try rw [hw3']
 clear m0 m1 m2 mf hw3'
 go_wp2_with fail
 refine (HALL.out _ HFR.out.bel).mono ?_
 rintro e w4 ⟨vA, rfl, hra, h4⟩
 have hlA : st.all.length ≤ 40 := by have h1 := HAL.out; have h2 := HN.out; omega
 obtain ⟨aA, cA, rfl⟩ := hra.form
 have hf4 : Fr w w4 #[.slice a1 n1 c1, .slice a2_ n2_ c2_] #[.slice none 0 0, .slice none 0 0, .int .i64 0] b2 b4 b6 (.slice none 0 0) (.slice none 0 0) (.int .i64 0) (.slice none 0 0) [] ((.slice none 0 0, []) :: (.slice aA st.all.length cA, st.all) :: []) := ((HFR.out.sub (List.nil_sublist _)).newRow (r := (.slice aA st.all.length cA, st.all)) h4 (by unfold PkRow at hra; exact ownsC_of hra)).consNil
 obtain ⟨nA, hnA⟩ : ∃ n, n = st.all.length := ⟨_, rfl⟩
 rw [← hnA] at hf4 hlA ⊢
 have HNA := hdL hnA; have HF4 := hdL hf4
 clear hra hf4 hnA h4 k0 k1
 go_wp2_with fail
 go_loopw [23] (fun i wr => ∃ (k : Nat) (aL : Option Addr) (nS cL : Nat) (al : Option Addr) (nN cl : Nat), i = .int .i64 k ∧ k ≤ nA ∧ nS ≤ k ∧ nN ≤ k ∧ Hid (nS = ((st.all.take k).filter st.isSeed).length) ∧ Hid (nN = ((st.all.take k).filter fun q => !st.isSeed q).length) ∧ Hid (Fr w wr #[.slice a1 n1 c1, .slice a2_ n2_ c2_] #[.slice none 0 0, .slice none 0 0, .int .i64 0] b2 b4 b6 (.slice aL nS cL) (.slice al nN cl) (.int .i64 0) (.slice aL nS cL) (sdE st (st.all.take k)) ((.slice al nN cl, (st.all.take k).filter fun q => !st.isSeed q) :: (.slice aA nA cA, st.all) :: []))) (fun i _ => nA - (intOf i).toNat)
 case atStart => exact ⟨0, none, 0, 0, none, 0, 0, rfl, Nat.zero_le _, Nat.le_refl _, Nat.le_refl _, hdL rfl, hdL rfl, HF4⟩
 case round =>
  obtain ⟨k, aL, nS, cL, al, nN, cl, rfl, hk, hnk, hnk2, hnS, hnN, hfr⟩ := hrel
  obtain ⟨W0, hW0⟩ : ∃ W, W = wr := ⟨_, rfl⟩
  subst hW0
  by_cases hlt : k < nA
  ·obtain ⟨q, hq⟩ : ∃ q, st.all[k]? = some q := ⟨_, gEg (by rw [← HNA.out]; exact hlt)⟩
   have hpl := (hfr.out.rows.own (.slice aA nA cA, st.all) (by simp)).at (by show st.all.length ≤ _; rw [← HNA.out]; omega)
   obtain ⟨bQ, oQ, S, rfl, hS, f0, f1, f2, f3⟩ := hpl.cells hq
   obtain ⟨q1, hq1⟩ : ∃ y, y = q.2.1 := ⟨_, rfl⟩
   obtain ⟨q2, hq2⟩ : ∃ y, y = q.2.2.1 := ⟨_, rfl⟩
   obtain ⟨q3, hq3⟩ : ∃ y, y = q.2.2.2 := ⟨_, rfl⟩
   rw [← hq1] at f1; rw [← hq2] at f2; rw [← hq3] at f3
   obtain ⟨w5, hw5, hb5, hx5, y1, y2⟩ := aBk W0 #[.string S, .int .i64 q1, .int .i64 q2, .int .i64 q3] 41
   obtain ⟨b5, hb5e⟩ : ∃ b, W0.heap.size = b := ⟨_, rfl⟩
   rw [hb5e] at hx5
   have hf5 := hfr.out.below hb5
   have hi := HISS.out w5 hf5.bel q
   rw [hS, ← hq1, ← hq2, ← hq3] at hi
   have htk : st.all.take (k + 1) = st.all.take k ++ [q] := by rw [List.take_add_one, hq]; rfl
   have hpk : (pkL q).toArray = #[.string S, .int .i64 q1, .int .i64 q2, .int .i64 q3] := by unfold pkL; rw [hS, ← hq1, ← hq2, ← hq3]
   have hent : (entL ((⟨q, 0, ch0⟩, (none, 0)) : EV)).toArray = #[.string S, .int .i64 q1, .int .i64 q2, .int .i64 q3, .int .i64 0, .string ⟨#[]⟩, .int .i64 0, .int .i64 0, .int .i64 0, .slice none 0 0] := by unfold entL; dsimp only; rw [hS, ← hq1, ← hq2, ← hq3]; rfl
   have HF5 := hdL hf5; have HX5 := hdL hx5; have HI5 := hdL hi; have HTK := hdL htk; have HPK := hdL hpk; have HENT := hdL hent
   obtain ⟨d0, d1, d2, d3⟩ := cells4 hx5
   obtain ⟨e0, e1⟩ := cells2 hf5.c2
   clear hq hpl hS hq1 hq2 hq3 hb5 hx5 hi htk hpk hent hf5 y1 y2
   cases hss : st.isSeed q
   ·rw [hss] at HI5
    have HSS := hdL hss; clear hss
    go_wp2_with fail
    refine HI5.out.mono ?_
    rintro e w6 ⟨rfl, h6⟩
    have hx6 := (h6.block _ (loh HX5.out)).trans HX5.out
    have hf6 := HF5.out.below h6
    obtain ⟨u0, u1, u2, u3⟩ := cells4 hx6
    obtain ⟨t0, t1, t2⟩ := cells3 hf6.c6
    have tf := foh hf6.c6
    have HF6 := hdL hf6; have HX6 := hdL hx6
    clear hf6 hx6 h6 d0 d1 d2 d3 e0 e1
    obtain ⟨w7, hw7, hb7, hx7, y1, y2⟩ := aBk w6 #[.string S, .int .i64 q1, .int .i64 q2, .int .i64 q3] 41
    obtain ⟨b7, hb7e⟩ : ∃ b, w6.heap.size = b := ⟨_, rfl⟩
    rw [hb7e] at hx7
    rw [← HPK.out] at hx7
    have hf7 := HF6.out.below hb7
    have hop : ownsC w7 w.heap.size 41 4 (.slice al nN cl) nN (((st.all.take k).filter fun q => !st.isSeed q).flatMap pkL) := by have := hf7.rows.own _ (mCs ..); unfold PRow at this; dsimp only at this; rw [← hnN.out] at this; exact this
    obtain ⟨iP, hiP, hzP0, hzP1, hzP2⟩ := info_parts infoPkg
    have HI := hdL (And.intro hiP (And.intro hzP0 (And.intro hzP1 hzP2)))
    clear hiP hzP0 hzP1 hzP2
    have HF7 := hdL hf7; have HOP := hdL hop; have HSRC := hdL (src_pkb hx7)
    clear hf7 hop hx7 hb7 y1 y2
    go_wp2_with (first | (at_builtin; refine wpList_append_c rfl (.tmp 38) (.tmp 40) 22 22 rfl w.heap.size 41 iP _ 4 40 Tryz.underlying22 HI.out.1 HI.out.2.1 HI.out.2.2.1 HI.out.2.2.2 rfl (.slice al nN cl) rfl nN _ HOP.out (.slice (some ⟨b7, 0, none⟩) 1 1) rfl 1 _ HSRC.out (by unfold maxLen; omega) (by omega) HF7.out.bel.size ?_; intro a' c' w8 ho hg hw; have hf8 := HF7.out.rowPush hnN.out.symm hg ho hw; have x0 := cOh hf8.c6 0; have x1 := cOh hf8.c6 1; have x2 := cOh hf8.c6 2; have xf := foh hf8.c6; have HF8 := hdL hf8; clear ho hg hw hf8) | fail)
    go_roundw
    case rel =>
     have hfE := HF8.out.setT 1 (.slice a' (nN + 1) c') (y0 := .slice aL nS cL) (y1 := .slice a' (nN + 1) c') (y2 := .int .i64 0) rfl
     obtain ⟨z1, z2, z3⟩ := sdE_no (ps := st.all.take k) HSS.out
     refine ⟨k + 1, aL, nS, cL, a', nN + 1, c', by go_num, hlt, by omega, by omega, hdL ?_, hdL ?_, hdL ?_⟩
     ·rw [HTK.out, z2]; exact hnS.out
     ·rw [HTK.out, z3, lAp, lSg, ← hnN.out]
     ·rw [HTK.out, z1, z3]; exact hfE
    case measure => simp [intOf]; omega
   ·rw [hss] at HI5
    have HSS := hdL hss; clear hss
    go_wp2_with fail
    refine HI5.out.mono ?_
    rintro e w6 ⟨rfl, h6⟩
    have hx6 := (h6.block _ (loh HX5.out)).trans HX5.out
    have hf6 := HF5.out.below h6
    obtain ⟨u0, u1, u2, u3⟩ := cells4 hx6
    obtain ⟨t0, t1, t2⟩ := cells3 hf6.c6
    have tf := foh hf6.c6
    have HF6 := hdL hf6; have HX6 := hdL hx6
    clear hf6 hx6 h6 d0 d1 d2 d3 e0 e1
    obtain ⟨w7, hw7, hb7, hx7, y1, y2⟩ := aBk w6 #[.string S, .int .i64 q1, .int .i64 q2, .int .i64 q3, .int .i64 0, .string ⟨#[]⟩, .int .i64 0, .int .i64 0, .int .i64 0, .slice none 0 0] 45
    obtain ⟨b7, hb7e⟩ : ∃ b, w6.heap.size = b := ⟨_, rfl⟩
    rw [hb7e] at hx7
    rw [← HENT.out] at hx7
    have hf7 := HF6.out.below hb7
    have hlen : (sdE st (st.all.take k)).length = nS := by rw [sdE_len]; exact hnS.out.symm
    have hop : ownsC w7 w.heap.size 45 10 (.slice aL nS cL) nS ((sdE st (st.all.take k)).flatMap entL) := by have := hf7.list; rw [hlen] at this; exact this
    obtain ⟨iE, hiE, hzE0, hzE1, hzE2⟩ := info_parts infoEnt
    have HIE := hdL (And.intro hiE (And.intro hzE0 (And.intro hzE1 hzE2)))
    clear hiE hzE0 hzE1 hzE2
    have HF7 := hdL hf7; have HOP := hdL hop; have HSRC := hdL (src_ent hx7); have HLEN := hdL hlen
    clear hf7 hop hx7 hb7 hlen y1 y2
    go_wp2_with (first | (at_builtin; refine wpList_append_c rfl (.tmp 31) (.tmp 34) 68 68 rfl w.heap.size 45 iE _ 10 112 Tryz.underlying68 HIE.out.1 HIE.out.2.1 HIE.out.2.2.1 HIE.out.2.2.2 rfl (.slice aL nS cL) rfl nS _ HOP.out (.slice (some ⟨b7, 0, none⟩) 1 1) rfl 1 _ HSRC.out (by unfold maxLen; omega) (by omega) HF7.out.bel.size ?_; intro a' c' w8 ho hg hw; have hf8 := HF7.out.listPush HLEN.out hg ho hw PkgsAt.nil; have x0 := cOh hf8.c6 0; have x1 := cOh hf8.c6 1; have x2 := cOh hf8.c6 2; have xf := foh hf8.c6; have HF8 := hdL hf8; clear ho hg hw hf8) | fail)
    go_roundw
    case rel =>
     have hfE := HF8.out.setT 0 (.slice a' (nS + 1) c') (y0 := .slice a' (nS + 1) c') (y1 := .slice al nN cl) (y2 := .int .i64 0) rfl
     obtain ⟨z1, z2, z3⟩ := sdE_yes (ps := st.all.take k) HSS.out
     refine ⟨k + 1, a', nS + 1, c', al, nN, cl, by go_num, hlt, by omega, by omega, hdL ?_, hdL ?_, hdL ?_⟩
     ·rw [HTK.out, z2, lAp, lSg, ← hnS.out]
     ·rw [HTK.out, z3]; exact hnN.out
     ·rw [HTK.out, z1, z3]; exact hfE
    case measure => simp [intOf]; omega
  ·obtain rfl : k = nA := by omega
   have htA : st.all.take k = st.all := tLe (by rw [← HNA.out]; exact Nat.le_refl _)
   obtain ⟨es0, hes0⟩ : ∃ es, es = sdE st st.all := ⟨_, rfl⟩
   have hfx := hfr.out; have hnS2 := hnS.out; have hnN2 := hnN.out
   rw [htA] at hfx hnS2 hnN2
   rw [← hes0] at hfx
   have he1 : es0.map Prod.fst = seeds0 st := by rw [hes0]; unfold sdE seeds0; rw [List.map_map]; rfl
   have he3 : es0.length = nS := by rw [hes0, hnS2]; exact sdE_len st st.all
   have hle : nS + nN ≤ 40 := by
    have h1 := (List.filter_append_perm st.isSeed st.all).length_eq
    have h2 := HAL.out
    have h3 := HN.out
    rw [lAp] at h1
    rw [hnS2, hnN2]
    omega
   have hst0 : ∀ x ∈ es0, x.1.stage < ((0 : Nat) : Int) + 1 := fun x hx => by rw [hes0] at hx; obtain ⟨p, -, rfl⟩ := List.mem_map.1 hx; show (0 : Int) < _; omega
   have hch0 : ∀ x ∈ es0, x.1.choice.2.length ≤ 2000 := fun x hx => by rw [hes0] at hx; obtain ⟨p, -, rfl⟩ := List.mem_map.1 hx; exact Nat.zero_le _
   have hfx0 := hfx.sub (rs' := [(.slice al nN cl, less0 st)]) (((List.Sublist.refl _).cons _).cons_cons _)
   have hfix : fixF st left ((less0 st).length + 1) (((0 : Nat) : Int) + 1) 0 (es0.map Prod.fst) (less0 st) = fixT st left := by rw [he1]; rfl
   obtain ⟨W1, hW1⟩ : ∃ W, W = W0 := ⟨_, rfl⟩
   subst hW1
   have HCH0 := hdL hch0; have HST0 := hdL hst0; have HFX0 := hdL hfx0; have HFIX := hdL hfix; have HE3 := hdL he3; have HNN := hdL hnN2
   clear hch0 hst0 hfx hfx0 hfix he1 he3 hnS2 hnN2 hes0 htA hfr hnS hnN HF4
   go_wp2_with fail
   go_loopw [9, 10] (fun x g wr => ∃ (s f : Nat) (gb : Bool) (made : Int) (es : List EV) (less : List Pk) (aL : Option Addr) (nL cL : Nat) (al : Option Addr) (nl cl : Nat), x = .int .i64 s ∧ g = .bool gb ∧ (gb = true → s + nl ≤ 49 ∧ nl + 1 ≤ f) ∧ s ≤ 50 ∧ nL + nl ≤ 40 ∧ 0 ≤ made ∧ made ≤ max left 0 ∧ Hid (nL = es.length) ∧ Hid (nl = less.length) ∧ Hid (gb = true → fixF st left f ((s : Int) + 1) made (es.map Prod.fst) less = fixT st left) ∧ Hid (gb = false → fixT st left = some (es.map Prod.fst, less, made)) ∧ Hid (∀ x ∈ es, x.1.stage < (s : Int) + 1) ∧ Hid (∀ x ∈ es, x.1.choice.2.length ≤ 2000) ∧ Hid (Fr w wr #[.slice a1 n1 c1, .slice a2_ n2_ c2_] #[.slice none 0 0, .slice none 0 0, .int .i64 0] b2 b4 b6 (.slice aL nL cL) (.slice al nl cl) (.int .i64 made) (.slice aL nL cL) es ((.slice al nl cl, less) :: []))) (fun x _ _ => 100 - (intOf x).toNat)
   case atStart => exact ⟨0, (less0 st).length + 1, true, 0, es0, less0 st, aL, nS, cL, al, nN, cl, rfl, rfl, fun _ => ⟨by omega, by have := HNN.out; show nN + 1 ≤ _ + 1; rw [this]; exact Nat.le_refl _⟩, Nat.zero_le _, hle, Int.le_refl _, by omega, hdL HE3.out.symm, HNN, hdL (fun _ => HFIX.out), hdL (fun h => by cases h), HST0, HCH0, HFX0⟩
   case round =>
    obtain ⟨s, f, gb, made, es, less, aL, nL, cL, al, nl, cl, rfl, rfl, hsf, hs5, hnn, hm0, hm1, hnL, hnl, hfix, hend, hstg, hcl, hfx⟩ := hrel
    obtain ⟨w0, hw0⟩ : ∃ W, W = wr := ⟨_, rfl⟩
    subst hw0
    cases gb
    ·obtain ⟨w9, hw9, hx9, hc9⟩ := three_setR hfx.out.c4 (.slice aL nL cL) (.slice al nl cl) (.int .i64 made)
     have hf9 := hfx.out.setR hx9 hc9
     have HX9 := hdL hx9; have HF9 := hdL hf9
     obtain ⟨t0, t1, t2⟩ := cells3 hfx.out.c6
     obtain ⟨z0, z1, z2⟩ := cells3 hfx.out.c4
     have zf := foh hfx.out.c4
     clear hx9 hf9 hc9
     go_wp2_with fail
     try rw [hw9]
     obtain ⟨r0, r1, r2⟩ := cells3 HX9.out
     refine bodyPost_ret (v := .tuple #[.agg #[.slice aL nL cL, .slice al nl cl, .int .i64 made], .int .i64 0]) (by simp [results, Tryz.results31, go_sem, r0, r1, r2]) rfl ?_
     have h1 := HF9.out.ents (by rw [← hnL.out]; omega)
     have h2 := (HF9.out.rows.own _ (mCs ..)).at (by show less.length ≤ _; rw [← hnl.out]; omega)
     refine ⟨HF9.out.bel, es, less, made, 0, aL, cL, al, cl, by rw [← hnL.out, ← hnl.out], by rw [← hnL.out]; exact h1, by rw [← hnl.out]; exact h2, ⟨by rw [← hnL.out]; omega, by rw [← hnl.out]; omega, fun x hx => by have := hcl.out x hx; omega⟩, .inr ⟨rfl, hend.out trivial⟩⟩
    ·obtain ⟨hs2, hf2⟩ := hsf rfl
     have hpo := fun W (hW : Below w0.heap.size w0 W) => rpool_any W es less made ((s : Int) + 1) aL cL al nl cl (by have h1 := (hfx.out.below hW).ents (by rw [← hnL.out]; omega); rw [← hnL.out]; exact h1.all) (by rw [← hnL.out]; omega)
     rw [poolE_all (by intro x hx; obtain ⟨y, hy, rfl⟩ := List.mem_map.1 hx; exact hstg.out y hy), List.length_map, List.length_map, ← hnL.out] at hpo
     have HPO := hdL hpo
     obtain ⟨t0, t1, t2⟩ := cells3 hfx.out.c6
     clear hpo
     go_wp2_with fail
     refine (HPO.out _ (Below.refl _ _)).mono ?_
     rintro e w1' ⟨ap, cp, rfl, hpr, h1⟩
     have hfp := (hfx.out.newRow h1 hpr).consNil
     have HFP := hdL hfp
     obtain ⟨t0, t1, t2⟩ := cells3 hfp.c6
     clear hfp hpr h1
     go_wp2_with fail
     go_loopw [10, 12, 53] (fun g l i wr => ∃ (k : Nat) (mk : Int) (es2 : List EV) (l2 : List Pk) (aE : Option Addr) (nE cE : Nat) (nm : Nat) (a2 : Option Addr) (n2 c2 : Nat) (gb : Bool), g = .bool gb ∧ l = .slice a2 n2 c2 ∧ i = .int .i64 k ∧ Hid (gb = decide (0 < nm)) ∧ k ≤ nl ∧ (nm + n2 ≤ k ∧ k ≤ nm + n2) ∧ (nE ≤ nL + nm ∧ nL + nm ≤ nE) ∧ 0 ≤ mk ∧ mk ≤ max left 0 ∧ Hid (nm = es2.length) ∧ Hid (n2 = l2.length) ∧ Hid (roundT st ((es.map Prod.fst).map Ent.pkg) left ((s : Int) + 1) less made = (roundT st ((es.map Prod.fst).map Ent.pkg) left ((s : Int) + 1) (less.drop k) mk).map (rF (es2.map Prod.fst) l2)) ∧ Hid (∀ x ∈ es2, x.1.stage = (s : Int) + 1) ∧ Hid (∀ x ∈ es ++ es2, x.1.choice.2.length ≤ 2000) ∧ Hid (Fr w wr #[.slice a1 n1 c1, .slice a2_ n2_ c2_] #[.slice none 0 0, .slice none 0 0, .int .i64 0] b2 b4 b6 (.slice aE nE cE) (.slice al nl cl) (.int .i64 mk) (.slice aE nE cE) (es ++ es2) ((.slice a2 n2 c2, l2) :: (.slice ap nL cp, (es.map Prod.fst).map Ent.pkg) :: (.slice al nl cl, less) :: []))) (fun _ _ i _ => nl - (intOf i).toNat)
     case atStart =>
      refine ⟨0, made, [], [], aL, nL, cL, 0, none, 0, 0, false, rfl, rfl, rfl, hdL rfl, Nat.zero_le _, by omega, by omega, hm0, hm1, hdL rfl, hdL rfl, hdL ?_, hdL (fun x hx => by cases hx), hdL (by rw [List.append_nil]; exact hcl.out), hdL ?_⟩
      ·rw [List.drop_zero]
       cases roundT st ((es.map Prod.fst).map Ent.pkg) left ((s : Int) + 1) less made <;> rfl
      ·rw [List.append_nil]
       exact HFP.out
     case round =>
      obtain ⟨k, mk, es2, l2, aE, nE, cE, nm, a2, n2, c2, gb, rfl, rfl, rfl, hgb, hk, hnk, hnE, hk0, hk1, hnm, hn2, hrd, hst2, hcl2, hfi⟩ := hrel
      obtain ⟨W0, hW0⟩ : ∃ W, W = wr := ⟨_, rfl⟩
      subst hW0
      by_cases hlt : k < nl
      ·obtain ⟨q, hq⟩ : ∃ q, less[k]? = some q := ⟨_, gEg (by rw [← hnl.out]; exact hlt)⟩
       have hpl := (hfi.out.rows.own (.slice al nl cl, less) (by simp)).at (by show less.length ≤ _; rw [← hnl.out]; omega)
       obtain ⟨bQ, oQ, S, rfl, hS, f0, f1, f2, f3⟩ := hpl.cells hq
       obtain ⟨q1, hq1⟩ : ∃ y, y = q.2.1 := ⟨_, rfl⟩
       obtain ⟨q2, hq2⟩ : ∃ y, y = q.2.2.1 := ⟨_, rfl⟩
       obtain ⟨q3, hq3⟩ : ∃ y, y = q.2.2.2 := ⟨_, rfl⟩
       rw [← hq1] at f1; rw [← hq2] at f2; rw [← hq3] at f3
       obtain ⟨Wp, hWp, hbp, hxp, y1, y2⟩ := aBk W0 #[.string S, .int .i64 q1, .int .i64 q2, .int .i64 q3] 41
       obtain ⟨bp, hbpe⟩ : ∃ b, W0.heap.size = b := ⟨_, rfl⟩
       rw [hbpe] at hxp
       have hfp := hfi.out.below hbp
       have hpool := (hfp.rows.own (.slice ap nL cp, (es.map Prod.fst).map Ent.pkg) (by simp)).at (by show ((es.map Prod.fst).map Ent.pkg).length ≤ _; rw [List.length_map, List.length_map, ← hnL.out]; omega)
       have hso := HSOL.out Wp hfp.bel q _ _ (hpool.keep ⟨fun _ _ _ => trivial, Nat.le_refl _, fun _ _ _ h => h⟩) (max left 0 - mk) (by omega)
       rw [hS, ← hq1, ← hq2, ← hq3] at hso
       obtain ⟨⟨⟨t, ch⟩, nD, e0⟩, hres⟩ : ∃ r, solveT st q ((es.map Prod.fst).map Ent.pkg) (max left 0 - mk) = r := ⟨_, rfl⟩
       rw [hres] at hso
       obtain ⟨nd0, -, nd1, -⟩ := solveT_nums hres
       obtain ⟨ta, hta⟩ : ∃ y, y = t.2.1 := ⟨_, rfl⟩
       obtain ⟨tb, htb⟩ : ∃ y, y = t.2.2.1 := ⟨_, rfl⟩
       obtain ⟨tc, htc⟩ : ∃ y, y = t.2.2.2 := ⟨_, rfl⟩
       have hpk : (pkL q).toArray = #[.string S, .int .i64 q1, .int .i64 q2, .int .i64 q3] := by unfold pkL; rw [hS, ← hq1, ← hq2, ← hq3]
       have hmn : mk + nD ≤ max left 0 := by omega
       obtain ⟨mr, hmr⟩ : ∃ y, y = max left 0 - mk := ⟨_, rfl⟩
       rw [← hmr] at hso
       obtain ⟨t0, t1, t2⟩ := cells3 hfp.c6
       obtain ⟨u0, u1, u2, u3⟩ := cells4 hxp
       obtain ⟨v0, v1⟩ := cells2 hfp.c2
       have HQ := hdL hq; have HFP2 := hdL hfp; have HSO := hdL hso; have HRES := hdL hres; have HXP := hdL hxp; have HPK := hdL hpk; have HT := hdL (And.intro hta (And.intro htb htc)); have HSQ := hdL (And.intro hS (And.intro hq1 (And.intro hq2 hq3))); have HBE := hdL hbpe
       clear hq hpl hS hq1 hq2 hq3 hbp hxp hfp hpool hso hres hpk hta htb htc y1 y2 hbpe
       by_cases hl0 : left < 0
       ·obtain rfl : mr = 0 := by omega
        have HMR := hdL hmr; clear hmr
        go_upto_region 22 with fail
        try rw [HBE.out]
        clear f0 f1 f2 f3
        go_wp2_with fail
        refine HSO.out.mono ?_
        rintro e w7 ⟨h7, sT, a, kc, hsT, rfl, hpk7⟩
        dsimp only
        dsimp only at hsT hpk7
        rw [← HT.out.1, ← HT.out.2.1, ← HT.out.2.2]
        obtain ⟨m, hm⟩ : ∃ m, m = ch.length := ⟨_, rfl⟩
        rw [← hm] at hpk7 ⊢
        have hf7 := HFP2.out.below h7
        have hpk72 : PkgsAt (zFr b4 b6 (.slice aE nE cE) ((.slice a2 n2 c2, l2) :: (.slice ap nL cp, (es.map Prod.fst).map Ent.pkg) :: (.slice (some ⟨bQ, oQ, none⟩) nl cl, less) :: [])) w7 (.slice a m kc) ch := hpk7.keep ⟨fun b _ hz => HFP2.out.zone hz, Nat.le_refl _, fun _ _ _ h => h⟩
        have hxp7 := (h7.block _ (loh HXP.out)).trans HXP.out
        obtain ⟨w8, hw8, hb8, hx8, z1, z2⟩ := aBk w7 #[.string ⟨#[]⟩, .int .i64 0, .int .i64 0, .int .i64 0, .slice none 0 0] 43
        obtain ⟨bc, hbce⟩ : ∃ b, w7.heap.size = b := ⟨_, rfl⟩
        rw [hbce] at hx8
        have hx8' := hx8
        obtain ⟨V9, hV9, hx9, hc9⟩ := five_set hx8 (.string sT) (.int .i64 ta) (.int .i64 tb) (.int .i64 tc) (.slice a m kc)
        have hb79 : Below w7.heap.size w7 V9 := hb8.trans (boC hc9 (fun k hk => by rw [mSg.1 hk]; omega) hb8.size)
        have hf9 := hf7.below hb79
        have hpk9 := hpk72.below hb79
        have hxp9 := (hb79.block _ (loh hxp7)).trans hxp7
        obtain ⟨z0, z1, z2, z3, z4⟩ := cells5 hx8'
        have zf := foh hx8'
        have HF9 := hdL hf9; have HPK9 := hdL hpk9; have HXP9 := hdL hxp9; have HX9 := hdL hx9; have HM := hdL hm; have HST := hdL hsT
        clear hf7 hpk7 hpk72 hf9 hpk9 hxp7 hxp9 hx9 hx8 hx8' hm hsT hb79 h7 hb8 hc9
        clear t0 t1 t2 u0 u1 u2 u3 v0 v1
        go_upto_region 23 with fail
        try rw [hbce]
        try rw [hV9]
        clear z0 z1 z2 z3 z4 zf
        obtain ⟨t0, t1, t2⟩ := cells3 HF9.out.c6
        have tf := foh HF9.out.c6
        have hfA := HF9.out.setT 2 (.int .i64 (mk + nD)) (y0 := .slice aE nE cE) (y1 := .slice (some ⟨bQ, oQ, none⟩) nl cl) (y2 := .int .i64 (mk + nD)) rfl
        have hkA : KP 70 V9 _ := KP.set (i := 2) (v := .int .i64 (mk + nD)) HF9.out.c6
        have hxpA := hkA _ _ _ _ (by decide) HXP9.out
        have hxA := hkA _ _ _ _ (by decide) HX9.out
        have hpkA : PkgsAt _ (V9.setCell ⟨b6, 2, none⟩ (.int .i64 (mk + nD))) (.slice a m kc) ch := HPK9.out.keep (Keep.of_block (fun _ _ hz => hz) (by simp [World.setCell]) (fun b hb hz => bHs _ _ _ b hz.2.1))
        obtain ⟨VA, hVA⟩ : ∃ W, V9.setCell ⟨b6, 2, none⟩ (.int .i64 (mk + nD)) = W := ⟨_, rfl⟩
        rw [hVA] at hfA hxpA hxA hpkA
        have HFA := hdL hfA; have HXPA := hdL hxpA; have HXA := hdL hxA; have HPKA := hdL hpkA
        clear hfA hkA hxpA hxA hpkA
        go_upto_region 24 with fail
        try rw [hVA]
        clear hVA t0 t1 t2 tf
        by_cases h6 : e0 = 60
        ·subst h6
         obtain ⟨wB, hwB, hxB, hcB⟩ := three_setR HFA.out.c4 (.slice none 0 0) (.slice none 0 0) (.int .i64 0)
         have hfB := HFA.out.setR hxB hcB
         obtain ⟨z0, z1, z2⟩ := cells3 HFA.out.c4
         have zf := foh HFA.out.c4
         have HXB := hdL hxB; have HFB := hdL hfB
         clear hxB hcB hfB
         go_wp2_with fail
         try rw [hwB]
         obtain ⟨r0, r1, r2⟩ := cells3 HXB.out
         refine bodyPost_ret (v := .tuple #[.agg #[.slice none 0 0, .slice none 0 0, .int .i64 0], .int .i64 60]) (by simp [results, Tryz.results31, go_sem, r0, r1, r2]) rfl ?_
         have hfx2 := hfix.out trivial
         obtain ⟨f', rfl⟩ : ∃ f', f = f' + 1 := ⟨f - 1, by omega⟩
         refine rfixP_none ?_ HFB.out.bel
         rw [← hfx2]
         have hrs := HRES.out
         exact fix_out (round_out hrd.out HQ.out hrs)
        ·have hb6 : ((e0 : Int) == 60) = false := by simp; exact h6
         by_cases h0 : e0 = 0
         ·subst h0
          have hrs := HRES.out
          obtain ⟨hok, -, hn1, hn9⟩ := solve_holds hrs
          exfalso
          have := HMR.out
          omega
         ·have hb0 : ((e0 : Int) == 0) = false := by simp; exact h0
          have hrs := HRES.out
          obtain ⟨wB, hwB, hbB, hxB, y1, y2⟩ := aBk VA #[.string S, .int .i64 q1, .int .i64 q2, .int .i64 q3] 41
          obtain ⟨bB, hbBe⟩ : ∃ b, VA.heap.size = b := ⟨_, rfl⟩
          rw [hbBe] at hxB
          rw [← HPK.out] at hxB
          have hfB := HFA.out.below hbB
          have hop : ownsC wB w.heap.size 41 4 (.slice a2 n2 c2) n2 (l2.flatMap pkL) := by have := hfB.rows.own _ (mCs ..); unfold PRow at this; dsimp only at this; rw [← hn2.out] at this; exact this
          obtain ⟨iP, hiP, hzP0, hzP1, hzP2⟩ := info_parts infoPkg
          have HI := hdL (And.intro hiP (And.intro hzP0 (And.intro hzP1 hzP2)))
          clear hiP hzP0 hzP1 hzP2
          obtain ⟨u0, u1, u2, u3⟩ := cells4 HXPA.out
          have HFB := hdL hfB; have HOP := hdL hop; have HSRC := hdL (src_pkb hxB); have HRS := hdL hrs
          clear hbB hxB y1 y2 hfB hop hrs
          go_wp2_with (first | (at_builtin; refine wpList_append_c rfl (.tmp 92) (.tmp 94) 22 22 rfl w.heap.size 41 iP _ 4 40 Tryz.underlying22 HI.out.1 HI.out.2.1 HI.out.2.2.1 HI.out.2.2.2 rfl (.slice a2 n2 c2) rfl n2 _ HOP.out (.slice (some ⟨bB, 0, none⟩) 1 1) rfl 1 _ HSRC.out (by unfold maxLen; omega) (by omega) HFB.out.bel.size ?_; intro a' c' w9 ho hg hw; have hf9' := HFB.out.rowPush hn2.out.symm hg ho hw; have HFC := hdL hf9'; clear ho hg hw hf9') | fail)
          go_roundw
          case rel =>
           refine ⟨k + 1, mk + nD, es2, l2 ++ [q], aE, nE, cE, nm, a', n2 + 1, c', gb, rfl, rfl, by go_num, hgb, by omega, by omega, by omega, by omega, by omega, hnm, hdL ?_, hdL ?_, hst2, hcl2, HFC⟩
           ·rw [lAp, lSg, ← hn2.out]
           ·exact round_no hrd.out HQ.out HRS.out h0 h6
          case measure => simp [intOf]; omega
       ·have hsub : IntKind.i64.wrap (left - mk) = mr := by rw [IntWalk.i64_in _ (by omega)]; omega
        have HMR := hdL hmr; clear hmr
        go_upto_region 22 with fail
        try rw [HBE.out]
        clear f0 f1 f2 f3
        go_wp2_with fail
        refine HSO.out.mono ?_
        rintro e w7 ⟨h7, sT, a, kc, hsT, rfl, hpk7⟩
        dsimp only
        dsimp only at hsT hpk7
        rw [← HT.out.1, ← HT.out.2.1, ← HT.out.2.2]
        obtain ⟨m, hm⟩ : ∃ m, m = ch.length := ⟨_, rfl⟩
        rw [← hm] at hpk7 ⊢
        have hf7 := HFP2.out.below h7
        have hpk72 : PkgsAt (zFr b4 b6 (.slice aE nE cE) ((.slice a2 n2 c2, l2) :: (.slice ap nL cp, (es.map Prod.fst).map Ent.pkg) :: (.slice (some ⟨bQ, oQ, none⟩) nl cl, less) :: [])) w7 (.slice a m kc) ch := hpk7.keep ⟨fun b _ hz => HFP2.out.zone hz, Nat.le_refl _, fun _ _ _ h => h⟩
        have hxp7 := (h7.block _ (loh HXP.out)).trans HXP.out
        obtain ⟨w8, hw8, hb8, hx8, z1, z2⟩ := aBk w7 #[.string ⟨#[]⟩, .int .i64 0, .int .i64 0, .int .i64 0, .slice none 0 0] 43
        obtain ⟨bc, hbce⟩ : ∃ b, w7.heap.size = b := ⟨_, rfl⟩
        rw [hbce] at hx8
        have hx8' := hx8
        obtain ⟨V9, hV9, hx9, hc9⟩ := five_set hx8 (.string sT) (.int .i64 ta) (.int .i64 tb) (.int .i64 tc) (.slice a m kc)
        have hb79 : Below w7.heap.size w7 V9 := hb8.trans (boC hc9 (fun k hk => by rw [mSg.1 hk]; omega) hb8.size)
        have hf9 := hf7.below hb79
        have hpk9 := hpk72.below hb79
        have hxp9 := (hb79.block _ (loh hxp7)).trans hxp7
        obtain ⟨z0, z1, z2, z3, z4⟩ := cells5 hx8'
        have zf := foh hx8'
        have HF9 := hdL hf9; have HPK9 := hdL hpk9; have HXP9 := hdL hxp9; have HX9 := hdL hx9; have HM := hdL hm; have HST := hdL hsT
        clear hf7 hpk7 hpk72 hf9 hpk9 hxp7 hxp9 hx9 hx8 hx8' hm hsT hb79 h7 hb8 hc9
        clear t0 t1 t2 u0 u1 u2 u3 v0 v1
        go_upto_region 23 with fail
        try rw [hbce]
        try rw [hV9]
        clear z0 z1 z2 z3 z4 zf
        obtain ⟨t0, t1, t2⟩ := cells3 HF9.out.c6
        have tf := foh HF9.out.c6
        have hfA := HF9.out.setT 2 (.int .i64 (mk + nD)) (y0 := .slice aE nE cE) (y1 := .slice (some ⟨bQ, oQ, none⟩) nl cl) (y2 := .int .i64 (mk + nD)) rfl
        have hkA : KP 70 V9 _ := KP.set (i := 2) (v := .int .i64 (mk + nD)) HF9.out.c6
        have hxpA := hkA _ _ _ _ (by decide) HXP9.out
        have hxA := hkA _ _ _ _ (by decide) HX9.out
        have hpkA : PkgsAt _ (V9.setCell ⟨b6, 2, none⟩ (.int .i64 (mk + nD))) (.slice a m kc) ch := HPK9.out.keep (Keep.of_block (fun _ _ hz => hz) (by simp [World.setCell]) (fun b hb hz => bHs _ _ _ b hz.2.1))
        obtain ⟨VA, hVA⟩ : ∃ W, V9.setCell ⟨b6, 2, none⟩ (.int .i64 (mk + nD)) = W := ⟨_, rfl⟩
        rw [hVA] at hfA hxpA hxA hpkA
        have HFA := hdL hfA; have HXPA := hdL hxpA; have HXA := hdL hxA; have HPKA := hdL hpkA
        clear hfA hkA hxpA hxA hpkA
        go_upto_region 24 with fail
        try rw [hVA]
        clear hVA t0 t1 t2 tf
        by_cases h6 : e0 = 60
        ·subst h6
         obtain ⟨wB, hwB, hxB, hcB⟩ := three_setR HFA.out.c4 (.slice none 0 0) (.slice none 0 0) (.int .i64 0)
         have hfB := HFA.out.setR hxB hcB
         obtain ⟨z0, z1, z2⟩ := cells3 HFA.out.c4
         have zf := foh HFA.out.c4
         have HXB := hdL hxB; have HFB := hdL hfB
         clear hxB hcB hfB
         go_wp2_with fail
         try rw [hwB]
         obtain ⟨r0, r1, r2⟩ := cells3 HXB.out
         refine bodyPost_ret (v := .tuple #[.agg #[.slice none 0 0, .slice none 0 0, .int .i64 0], .int .i64 60]) (by simp [results, Tryz.results31, go_sem, r0, r1, r2]) rfl ?_
         have hfx2 := hfix.out trivial
         obtain ⟨f', rfl⟩ : ∃ f', f = f' + 1 := ⟨f - 1, by omega⟩
         refine rfixP_none ?_ HFB.out.bel
         rw [← hfx2]
         have hrs := HRES.out
         exact fix_out (round_out hrd.out HQ.out hrs)
        ·have hb6 : ((e0 : Int) == 60) = false := by simp; exact h6
         by_cases h0 : e0 = 0
         ·subst h0
          have hrs := HRES.out
          obtain ⟨hok, -, hn1, hn9⟩ := solve_holds hrs
          dsimp only at hn1
          obtain ⟨x, hx⟩ : ∃ x : EV, x = (⟨q, (s : Int) + 1, (t, ch)⟩, (a, kc)) := ⟨_, rfl⟩
          have hcell : (entL x).toArray = #[.string S, .int .i64 q1, .int .i64 q2, .int .i64 q3, .int .i64 ((s : Int) + 1), .string sT, .int .i64 ta, .int .i64 tb, .int .i64 tc, .slice a m kc] := by rw [hx]; unfold entL withV; dsimp only; rw [HSQ.out.1, ← HSQ.out.2.1, ← HSQ.out.2.2.1, ← HSQ.out.2.2.2, HST.out, ← HT.out.1, ← HT.out.2.1, ← HT.out.2.2, ← HM.out]
          have hwv : withV x = .slice a m kc ∧ x.1.choice.2 = ch := by rw [hx]; exact ⟨by unfold withV; dsimp only; rw [← HM.out], rfl⟩
          obtain ⟨wB, hwB, hbB, hxB, y1, y2⟩ := aBk VA #[.string S, .int .i64 q1, .int .i64 q2, .int .i64 q3, .int .i64 ((s : Int) + 1), .string sT, .int .i64 ta, .int .i64 tb, .int .i64 tc, .slice a m kc] 45
          obtain ⟨bB, hbBe⟩ : ∃ b, VA.heap.size = b := ⟨_, rfl⟩
          rw [hbBe] at hxB
          rw [← hcell] at hxB
          have hfB := HFA.out.below hbB
          have hel : (es ++ es2).length = nE := by rw [lAp, ← hnL.out, ← hnm.out]; omega
          have hop : ownsC wB w.heap.size 45 10 (.slice aE nE cE) nE ((es ++ es2).flatMap entL) := by have := hfB.list; rw [hel] at this; exact this
          have hpB := HPKA.out.below hbB
          rw [← hwv.1, ← hwv.2] at hpB
          obtain ⟨iE, hiE, hzE0, hzE1, hzE2⟩ := info_parts infoEnt
          have HIE := hdL (And.intro hiE (And.intro hzE0 (And.intro hzE1 hzE2)))
          clear hiE hzE0 hzE1 hzE2
          obtain ⟨t0, t1, t2⟩ := cells3 HFA.out.c6
          have tf := foh HFA.out.c6
          obtain ⟨u0, u1, u2, u3⟩ := cells4 HXPA.out
          obtain ⟨v0, v1, v2, v3, v4⟩ := cells5 HXA.out
          have HX := hdL hx; have HFB := hdL hfB; have HEL := hdL hel; have HOP := hdL hop; have HPB := hdL hpB; have HSRC := hdL (src_ent hxB); have HRS := hdL hrs
          clear hx hcell hwv hbB hxB y1 y2 hfB hel hop hpB hrs hok hn9
          go_wp2_with (first | (at_builtin; refine wpList_append_c rfl (.tmp 84) (.tmp 89) 68 68 rfl w.heap.size 45 iE _ 10 112 Tryz.underlying68 HIE.out.1 HIE.out.2.1 HIE.out.2.2.1 HIE.out.2.2.2 rfl (.slice aE nE cE) rfl nE _ HOP.out (.slice (some ⟨bB, 0, none⟩) 1 1) rfl 1 _ HSRC.out (by unfold maxLen; omega) (by omega) HFB.out.bel.size ?_; intro a' c' w9 ho hg hw; have hf9' := HFB.out.listPush HEL.out hg ho hw HPB.out; have x0 := cOh hf9'.c6 0; have x1 := cOh hf9'.c6 1; have x2 := cOh hf9'.c6 2; have xf := foh hf9'.c6; have HFC := hdL hf9'; clear ho hg hw hf9') | fail)
          go_roundw
          case rel =>
           have hfE := HFC.out.setT 0 (.slice a' (nE + 1) c') (y0 := .slice a' (nE + 1) c') (y1 := .slice (some ⟨bQ, oQ, none⟩) nl cl) (y2 := .int .i64 (mk + nD)) rfl
           refine ⟨k + 1, mk + nD, es2 ++ [x], l2, a', nE + 1, c', nm + 1, a2, n2, c2, true, rfl, rfl, by go_num, hdL (by simp), by omega, by omega, by omega, by omega, by omega, hdL ?_, hn2, hdL ?_, hdL ?_, hdL ?_, hdL ?_⟩
           ·rw [lAp, lSg, ← hnm.out]
           ·have h1 := round_ok hrd.out HQ.out HRS.out
            rw [List.map_append, HX.out]
            exact h1
           ·intro y hy
            rcases List.mem_append.1 hy with hy | hy
            ·exact hst2.out y hy
            ·rw [mSg.1 hy, HX.out]
           ·intro y hy
            rw [← List.append_assoc] at hy
            rcases List.mem_append.1 hy with hy | hy
            ·exact hcl2.out y hy
            ·rw [mSg.1 hy, HX.out]
             dsimp only
             omega
           ·rw [← List.append_assoc]; exact hfE
          case measure => simp [intOf]; omega
         ·have hb0 : ((e0 : Int) == 0) = false := by simp; exact h0
          have hrs := HRES.out
          obtain ⟨wB, hwB, hbB, hxB, y1, y2⟩ := aBk VA #[.string S, .int .i64 q1, .int .i64 q2, .int .i64 q3] 41
          obtain ⟨bB, hbBe⟩ : ∃ b, VA.heap.size = b := ⟨_, rfl⟩
          rw [hbBe] at hxB
          rw [← HPK.out] at hxB
          have hfB := HFA.out.below hbB
          have hop : ownsC wB w.heap.size 41 4 (.slice a2 n2 c2) n2 (l2.flatMap pkL) := by have := hfB.rows.own _ (mCs ..); unfold PRow at this; dsimp only at this; rw [← hn2.out] at this; exact this
          obtain ⟨iP, hiP, hzP0, hzP1, hzP2⟩ := info_parts infoPkg
          have HI := hdL (And.intro hiP (And.intro hzP0 (And.intro hzP1 hzP2)))
          clear hiP hzP0 hzP1 hzP2
          obtain ⟨u0, u1, u2, u3⟩ := cells4 HXPA.out
          have HFB := hdL hfB; have HOP := hdL hop; have HSRC := hdL (src_pkb hxB); have HRS := hdL hrs
          clear hbB hxB y1 y2 hfB hop hrs
          go_wp2_with (first | (at_builtin; refine wpList_append_c rfl (.tmp 92) (.tmp 94) 22 22 rfl w.heap.size 41 iP _ 4 40 Tryz.underlying22 HI.out.1 HI.out.2.1 HI.out.2.2.1 HI.out.2.2.2 rfl (.slice a2 n2 c2) rfl n2 _ HOP.out (.slice (some ⟨bB, 0, none⟩) 1 1) rfl 1 _ HSRC.out (by unfold maxLen; omega) (by omega) HFB.out.bel.size ?_; intro a' c' w9 ho hg hw; have hf9' := HFB.out.rowPush hn2.out.symm hg ho hw; have HFC := hdL hf9'; clear ho hg hw hf9') | fail)
          go_roundw
          case rel =>
           refine ⟨k + 1, mk + nD, es2, l2 ++ [q], aE, nE, cE, nm, a', n2 + 1, c', gb, rfl, rfl, by go_num, hgb, by omega, by omega, by omega, by omega, by omega, hnm, hdL ?_, hdL ?_, hst2, hcl2, HFC⟩
           ·rw [lAp, lSg, ← hn2.out]
           ·exact round_no hrd.out HQ.out HRS.out h0 h6
          case measure => simp [intOf]; omega
      ·obtain rfl : k = nl := by omega
       have hround := round_end hrd.out (by rw [← hnl.out]; exact Nat.le_refl _)
       have hfS := hfi.out.setT 1 (.slice a2 n2 c2) (y0 := .slice aE nE cE) (y1 := .slice a2 n2 c2) (y2 := .int .i64 mk) rfl
       have hfE := hfS.sub (rs' := [(.slice a2 n2 c2, l2)]) ((List.nil_sublist _).cons_cons _)
       obtain ⟨t0, t1, t2⟩ := cells3 hfi.out.c6
       have tf := foh hfi.out.c6
       have hel : (es ++ es2).length = nE := by rw [lAp, ← hnL.out, ← hnm.out]; omega
       have HRD := hdL hround; have HFE := hdL hfE; have HEL := hdL hel
       clear hround hfS hfE hel
       go_wp2_with fail
       go_roundw
       case rel =>
        obtain ⟨f', rfl⟩ : ∃ f', f = f' + 1 := ⟨f - 1, by omega⟩
        have hgb2 := hgb.out
        have hfx2 := hfix.out trivial
        refine ⟨s + 1, f', gb, mk, es ++ es2, l2, aE, nE, cE, a2, n2, c2, by go_num, rfl, fun hg => ?_, by omega, by omega, hk0, hk1, hdL HEL.out.symm, hn2, hdL (fun hg => ?_), hdL (fun hg => ?_), hdL ?_, hcl2, HFE⟩
        ·rw [hg] at hgb2
         have := of_decide_eq_true hgb2.symm
         omega
        ·rw [hg] at hgb2
         have h1 := of_decide_eq_true hgb2.symm
         have hne : es2.map Prod.fst ≠ [] := fun e => by have := congrArg List.length e; rw [List.length_map, ← hnm.out] at this; simp at this; omega
         have h2 := fix_next (f := f') HRD.out hne
         rw [hfx2, ← List.map_append] at h2
         rw [h2]
         congr 1
        ·rw [hg] at hgb2
         have h1 := of_decide_eq_false hgb2.symm
         have hnil : es2 = [] := eN0 (by rw [← hnm.out]; omega)
         have hrd2 := HRD.out
         rw [hnil] at hrd2
         rw [← hfx2, hnil, List.append_nil]
         exact fix_end hrd2
        ·intro x hx
         rcases List.mem_append.1 hx with hx | hx
         ·have := hstg.out x hx; omega
         ·have := hst2.out x hx; omega
       case measure => simp [intOf]; omega
end Go.Proofs.YtaagkndhgicifaaGreat
