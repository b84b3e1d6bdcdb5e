/- DERIVED. stage.Fix, walked. (Printed by fixgen.py.) -/
import Derived.Test.YtaagkndhgicifaaGreatStgMem
import Derived.Test.YtaagkndhgicifaaGreatSw1
import Derived.Test.YtaagkndhgicifaaGreatSv13
namespace Go.Proofs.YtaagkndhgicifaaGreat
set_option maxHeartbeats 32000000
open Go.RowKit Go.Shelf
set_option linter.unusedVariables false
set_option linter.unusedSimpArgs false
set_option maxRecDepth 100000
attribute [local go_sem] Oper.semAt_some
theorem SolveP.shape {w w' : World} {t : Pk} {c : List Pk} {m e0 : Int} {e : Ending} (h : SolveP w ((t, c), m, e0) e w') : ∃ (s : ByteArray) (a : Option Addr) (n k : Nat), n = c.length ∧ strV t.1 = .string s ∧
  e = .returned (.tuple #[.agg #[.string s, .int .i64 t.2.1, .int .i64 t.2.2.1, .int .i64 t.2.2.2, .slice a n k], .int .i64 m, .int .i64 e0]) ∧ ownsC w' w.heap.size 41 4 (.slice a n k) c.length (c.flatMap pkL) ∧ Below w.heap.size w w' := by
 obtain ⟨v, s, a, n, k, rfl, h1, h2, rfl, h3, h4⟩ := h
 exact ⟨s, a, n, k, h1, h2, rfl, h3, h4⟩
def FixP (st : St) (left : Int) (w : World) (e : Ending) (w' : World) : Prop := Below w.heap.size w w' ∧ match fixT st left with
 | none => e = .returned (.tuple #[.pointer none, .int .i64 60])
 | some (L, l, m) => ∃ Tb es, e = .returned (.tuple #[.pointer (some ⟨Tb, 0, none⟩), .int .i64 0]) ∧ es.map Prod.fst = L ∧ StgAt (zNew w.heap.size) w' Tb es l m
def sdE (st : St) (ps : List Pk) : List EV := (ps.filter st.isSeed).map fun p => (⟨p, 0, ch0⟩, (none, 0))
theorem sdE_yes {st : St} {ps : List Pk} {p : Pk} (h : st.isSeed p = true) : sdE st (ps ++ [p]) = sdE st ps ++ [(⟨p, 0, ch0⟩, (none, 0))] ∧ (ps ++ [p]).filter st.isSeed = ps.filter st.isSeed ++ [p] ∧ (ps ++ [p]).filter (fun q => !st.isSeed q) = ps.filter (fun q => !st.isSeed q) := by
 unfold sdE
 simp [List.filter_append, h]
theorem sdE_no {st : St} {ps : List Pk} {p : Pk} (h : st.isSeed p = false) : sdE st (ps ++ [p]) = sdE st ps ∧ (ps ++ [p]).filter st.isSeed = ps.filter st.isSeed ∧ (ps ++ [p]).filter (fun q => !st.isSeed q) = ps.filter (fun q => !st.isSeed q) ++ [p] := by
 unfold sdE
 simp [List.filter_append, h]
theorem sdE_len (st : St) (ps : List Pk) : (sdE st ps).length = (ps.filter st.isSeed).length := by unfold sdE; rw [List.length_map]
theorem fixP_none {st : St} {left : Int} {w w' : World} (h : fixT st left = none) (hb : Below w.heap.size w w') : FixP st left w (.returned (.tuple #[.pointer none, .int .i64 60])) w' := by
 refine ⟨hb, ?_⟩
 rw [h]
theorem fixP_some {st : St} {left m : Int} {w w' : World} {Tb : Nat} {es : List EV} {l : List Pk} (h : fixT st left = some (es.map Prod.fst, l, m)) (hb : Below w.heap.size w w') (hs : StgAt (zNew w.heap.size) w' Tb es l m) : FixP st left w (.returned (.tuple #[.pointer (some ⟨Tb, 0, none⟩), .int .i64 0])) w' := by
 refine ⟨hb, ?_⟩
 rw [h]
 exact ⟨Tb, es, rfl, rfl, hs⟩
def rF (es : List Ent) (l : List Pk) (r : Int × List Ent × List Pk) : Int × List Ent × List Pk := (r.1, es ++ r.2.1, l ++ r.2.2)
section
variable {st : St} {pool : List Pk} {left s made mk n e : Int} {less l2 : List Pk} {es2 : List Ent} {k : Nat} {q : Pk} {c : Ch5}
theorem drop_at {l : List Pk} (hk : l[k]? = some q) : l.drop k = q :: l.drop (k + 1) := by
 rw [List.drop_eq_getElem_cons (gEs.1 hk).1, (gEs.1 hk).2]
theorem round_ok (h : roundT st pool left s less made = (roundT st pool left s (less.drop k) mk).map (rF es2 l2)) (hk : less[k]? = some q) (hs : solveT st q pool (max left 0 - mk) = (c, n, 0)) : roundT st pool left s less made = (roundT st pool left s (less.drop (k + 1)) (mk + n)).map (rF (es2 ++ [⟨q, s, c⟩]) l2) := by
 rw [h, drop_at hk, roundT_cons hs, if_neg (by decide), Option.map_map]
 congr 1
 funext r
 simp [rF]
theorem round_no (h : roundT st pool left s less made = (roundT st pool left s (less.drop k) mk).map (rF es2 l2)) (hk : less[k]? = some q) (hs : solveT st q pool (max left 0 - mk) = (c, n, e)) (h0 : e ≠ 0) (h6 : e ≠ 60) : roundT st pool left s less made = (roundT st pool left s (less.drop (k + 1)) (mk + n)).map (rF es2 (l2 ++ [q])) := by
 rw [h, drop_at hk, roundT_cons hs, if_neg h6, Option.map_map]
 congr 1
 funext r
 simp [rF, h0]
theorem round_out (h : roundT st pool left s less made = (roundT st pool left s (less.drop k) mk).map (rF es2 l2)) (hk : less[k]? = some q) (hs : solveT st q pool (max left 0 - mk) = (c, n, 60)) : roundT st pool left s less made = none := by
 rw [h, drop_at hk, roundT_cons hs, if_pos rfl]; rfl
theorem round_end (h : roundT st pool left s less made = (roundT st pool left s (less.drop k) mk).map (rF es2 l2)) (hk : less.length ≤ k) : roundT st pool left s less made = some (mk, es2, l2) := by
 rw [h, List.drop_eq_nil_of_le hk, roundT_nil]
 simp [rF]
theorem fix_out {f : Nat} {list : List Ent} (h : roundT st (list.map Ent.pkg) left s less made = none) : fixF st left (f + 1) s made list less = none := by
 unfold fixF
 rw [h]
theorem fix_end {f : Nat} {list : List Ent} (h : roundT st (list.map Ent.pkg) left s less made = some (mk, [], l2)) : fixF st left (f + 1) s made list less = some (list, l2, mk) := by
 unfold fixF
 rw [h]
 rfl
theorem fix_next {f : Nat} {list : List Ent} (h : roundT st (list.map Ent.pkg) left s less made = some (mk, es2, l2)) (he : es2 ≠ []) : fixF st left (f + 1) s made list less = fixF st left f (s + 1) mk (list ++ es2) l2 := by
 conv => lhs; unfold fixF
 rw [h]
 dsimp only
 rw [if_neg he]
end
theorem PRows.nils {base : Nat} {w : World} {rs : List (Value × List Pk)} : ∀ (ns : List (Value × List Pk)), (∀ r ∈ ns, r = (.slice none 0 0, [])) → PRows base w rs → PRows base w (rs ++ ns)
 | [], _, h => by rw [List.append_nil]; exact h
 | r :: ns, hn, h => by
  obtain rfl := hn r (mCs ..)
  have ih := PRows.nils ns (fun r hr => hn r (mCm _ hr)) h
  exact (ih.consNil).perm List.perm_middle.symm
theorem chs_set {w : World} {b n : Nat} {v w0 : World} (h : Below n v w0) (hb : n ≤ b) (x0 x1 x2 x3 x4 : Value) : Below n v (((((w0.setCell ⟨b, 0, none⟩ x0).setCell ⟨b, 1, none⟩ x1).setCell ⟨b, 2, none⟩ x2).setCell ⟨b, 3, none⟩ x3).setCell ⟨b, 4, none⟩ x4) :=
 ((((h.setCell (p := ⟨b, 0, none⟩) hb _).setCell (p := ⟨b, 1, none⟩) hb _).setCell (p := ⟨b, 2, none⟩) hb _).setCell (p := ⟨b, 3, none⟩) hb _).setCell (p := ⟨b, 4, none⟩) hb _
def RngI (w : World) (b2 b6 b7 Tb B : Nat) (st : St) (pre : List Pk) (V : World) : Prop := ∃ (aL : Option Addr) (nS cL : Nat) (al : Option Addr) (nN cl : Nat) (ap : Option Addr) (cp : Nat), nS = (pre.filter st.isSeed).length ∧ nN = (pre.filter fun q => !st.isSeed q).length ∧
 Fx w V V b2 b6 b7 Tb B (.slice aL nS cL) (.int .i64 0) (.slice al nN cl) (.slice ap nS cp) (.slice aL nS cL) (sdE st pre) [(.slice ap nS cp, pre.filter st.isSeed), (.slice al nN cl, pre.filter fun q => !st.isSeed q)]
theorem rngI_own {w : World} {b2 b6 b7 Tb B D : Nat} {st : St} (hD : w.heap.size ≤ D) : OwnFrom D (RngI w b2 b6 b7 Tb B st) := by
 rintro pre A C row ⟨aL, nS, cL, al, nN, cl, ap, cp, h1, h2, h3⟩ hg hr
 exact ⟨aL, nS, cL, al, nN, cl, ap, cp, h1, h2, h3.turn hD hg hr⟩
theorem fix_any (w : World) (B : Nat) (F : List Nat) (st : St) (h : StkAt w B F st) (left : Int) (hl : left ≤ 2000) :
  Calls Tryz.prog 16 #[.pointer (some ⟨B, 0, none⟩), .int .i64 left] w (FixP st left w) := by
 have hF := h.lt
 have hfew : st.seeds.length ≤ 8 ∧ st.recs.length ≤ 32 := by obtain ⟨_, _, _, _, h⟩ := h; exact h.few
 have hallen := all_len st
 obtain ⟨w1, hw1, hb1, hx1, y1, y2⟩ := aBk w #[.pointer (some ⟨B, 0, none⟩)] 27
 obtain ⟨w2, hw2, hb2, hx2, y3, y4⟩ := aBk w1 #[.slice none 0 0, .int .i64 0, .slice none 0 0] 96
 obtain ⟨Tb, hTb⟩ : ∃ b, w1.heap.size = b := ⟨_, rfl⟩
 rw [hTb] at hx2
 obtain ⟨w3, hw3, hb3, hx3, y5, y6⟩ := aBk w2 #[.pointer (some ⟨Tb, 0, none⟩)] 31
 obtain ⟨w4, hw4, hb4, hx4, y7, y8⟩ := aBk w3 #[.slice none 0 0] 22
 obtain ⟨b2, hb2e⟩ : ∃ b, w.heap.size = b := ⟨_, rfl⟩
 obtain ⟨b6, hb6e⟩ : ∃ b, w2.heap.size = b := ⟨_, rfl⟩
 obtain ⟨b7, hb7e⟩ : ∃ b, w3.heap.size = b := ⟨_, rfl⟩
 have hb12 := hb1.trans (hb2.mono hb1.size)
 have hb13 := hb12.trans (hb3.mono hb12.size)
 have hb14 := hb13.trans (hb4.mono hb13.size)
 have g1 := (hb4.block _ (by omega)).trans ((hb3.block _ (by omega)).trans ((hb2.block _ (by omega)).trans hx1))
 have g2 := (hb4.block _ (by omega)).trans ((hb3.block _ (by omega)).trans hx2)
 have g3 := (hb4.block _ (by omega)).trans hx3
 rw [hb2e] at g1 hx1; rw [hb6e] at g3; rw [hb7e] at hx4
 have kk := cOh hx1 0
 have hfx : Fx w w4 w4 b2 b6 b7 Tb B (.slice none 0 0) (.int .i64 0) (.slice none 0 0) (.slice none 0 0) (.slice none 0 0) [] [(.slice none 0 0, []), (.slice none 0 0, [])] := ⟨g1, g3, hx4, g2, ownsC_nil _ _ _ _, (PRows.consNil (PRows.consNil (PRows.nil _ _))), hb14, by omega, OnlyX.refl _ _⟩
 have hiss := fun V (hV : Below w.heap.size w V) p => stkiss_any V B F st (h.below hV) p
 have hsol := fun V (hV : Below w.heap.size w V) p vp Z pool (hp : PkgsAt Z V vp pool) lf (hlf : lf ≤ 2000) => solve_any V B F st (h.below hV) p vp Z pool hp lf hlf
 have hast := fun V (hV : Below w.heap.size w V) C1 hC1 X hX1 hX2 hX3 hX4 hX5 => all_stops 7 (by omega) V B F st (h.below hV) C1 hC1 X hX1 hX2 hX3 hX4 hX5
 have HF := hdL hF; have HFEW := hdL hfew; have HALEN := hdL hallen; have HFX := hdL hfx; have HISS := hdL hiss; have HSOL := hdL hsol; have HAST := hdL hast; have HB14 := hdL hb14
 have HSZ := hdL (show w.heap.size = b2 ∧ Tb = b2 + 1 ∧ b6 = b2 + 2 ∧ b7 = b2 + 3 ∧ w4.heap.size = b2 + 4 from by omega)
 have k0 := cOh g1 0
 clear h hF hfew hallen hfx hiss hsol hast g2 g3 hx4 hb1 hb2 hb3 hb4 hb12 hb13 hb14 hx1 hx2 hx3 y1 y2 y3 y4 y5 y6 y7 y8
 refine calls_of_wp_marks Tryz.func16 rfl ?_
 simp only [Tryz.ntmps16, List.size_toArray, List.length_cons, List.length_nil, Nat.reduceAdd, Nat.reduceSub, Array.replicate_succ, Array.replicate_zero, List.push_toArray, List.append_toArray, List.nil_append, List.cons_append]
 go_wp2_with fail
 refine (allf_any _ B).mono ?_
 rintro e w5 ⟨rfl, e5⟩
 have hb5 : Below w4.heap.size w4 w5 := by rw [e5]; exact (Below.refl _ _).alloc (Nat.le_refl _) _
 have hC1 : w5.heap[w4.heap.size]? = some (.cells #[.pointer (some ⟨B, 0, none⟩)] 27 (0, 0)) := by rw [e5]; exact heap_alloc_new w4 _
 have hfx5 := (HFX.out.below hb5).base
 have hst := (HAST.out w5 hfx5.bel w4.heap.size hC1 (XFix w.heap.size) (fun b hb o hx => by have := HF.out b hb; have := hx.1; omega) (xfix_row (by decide) (by decide) (by decide) (by decide)) (xfix_row (by decide) (by decide) (by decide) (by decide)) (xfix_row (by decide) (by decide) (by decide) (by decide)) (xfix_row (by decide) (by decide) (by decide) (by decide))).toE
 have HST := hdL hst; have HFX5 := hdL hfx5; have HZ5 := hdL (show w.heap.size ≤ w5.heap.size from hfx5.bel.size)
 clear e5 hb5 hC1 hfx5 hst k0 kk g1 hw1 hw2 hw3 hw4 hTb hb2e hb6e hb7e
 go_wp2_with fail
 refine (wpIn_wide (n := 8)).1 ?_
 refine range_wideE (n := 8) (by omega) (gf := 78) (lb := #[.pointer (some ⟨w4.heap.size, 0, none⟩)]) rfl enters_all HST.out (Below.refl _ _) (fun _ => rfl)
  (RngI w b2 b6 b7 Tb B st) (fun _ _ _ => False) (rngI_own HZ5.out) (fun c s P Q row hs hg hr => hs)
  ⟨none, 0, 0, none, 0, 0, none, 0, rfl, rfl, HFX5.out⟩ ?round ?done ?stop
 case round =>
  rintro l2 pre x Wr n0 hl2 hn0 hIr hpre -
  obtain ⟨T, -, hT, -, -⟩ := strV_is x.1
  unfold encPk
  rw [hT]
  gi_wp2
  refine ⟨(Below.refl _ _).alloc (Nat.le_refl _) _, ?_⟩
  rintro W2 ⟨aL, nS, cL, al, nN, cl, ap, cp, hnS, hnN, hfx⟩ hsame -
  have hp2 := hsame.heap (heap_alloc_new Wr (.cells #[.string T, .int .i64 x.2.1, .int .i64 x.2.2.1, .int .i64 x.2.2.2] 41))
  have hap : ∀ g, (Value.slice ap nS cp).ownBlock = some g → g < Wr.heap.size := by
   obtain ⟨aL', nS', cL', al', nN', cl', ap', cp', -, -, hfr⟩ := hIr
   have h7 := hsame.heap ((((Below.refl _ Wr).alloc (Nat.le_refl _) (.cells #[.string T, .int .i64 x.2.1, .int .i64 x.2.2.1, .int .i64 x.2.2.2] 41)).block _ (loh hfr.c7)).trans hfr.c7)
   rw [hfx.c7] at h7
   have h8 := (Obj.cells.inj (sIj h7)).1
   simp only [Array.mk.injEq, List.cons.injEq, and_true] at h8
   obtain ⟨rfl, rfl, rfl⟩ := Value.slice.inj h8
   exact fun g hg => ((hfr.rows.own _ (mCs ..)).lt hg).2
  obtain ⟨Bp, hBp⟩ : ∃ b, Wr.heap.size = b := ⟨_, rfl⟩
  rw [hBp] at hp2 hap ⊢
  have hlen : (pre.filter st.isSeed).length ≤ 100 ∧ (pre.filter fun q => !st.isSeed q).length ≤ 100 := by
   have h1 := hpre.length_le
   have h2 := HALEN.out
   have h3 := HFEW.out
   have h4 := List.length_filter_le st.isSeed pre
   have h5 := List.length_filter_le (fun q => !st.isSeed q) pre
   rw [lAp, lSg] at h1
   omega
  rw [← hnS, ← hnN] at hlen
  have hiss := HISS.out W2 hfx.bel x
  rw [hT] at hiss
  obtain ⟨x1, hx1⟩ : ∃ y, y = x.2.1 := ⟨_, rfl⟩
  obtain ⟨x2, hx2⟩ : ∃ y, y = x.2.2.1 := ⟨_, rfl⟩
  obtain ⟨x3, hx3⟩ : ∃ y, y = x.2.2.2 := ⟨_, rfl⟩
  have hpk : (pkL x).toArray = #[.string T, .int .i64 x1, .int .i64 x2, .int .i64 x3] := by unfold pkL; rw [hT, ← hx1, ← hx2, ← hx3]
  have hent : (entL ((⟨x, 0, ch0⟩, (none, 0)) : EV)).toArray = #[.string T, .int .i64 x1, .int .i64 x2, .int .i64 x3, .int .i64 0, .string ⟨#[]⟩, .int .i64 0, .int .i64 0, .int .i64 0, .slice none 0 0] := by unfold entL; dsimp only; rw [hT, ← hx1, ← hx2, ← hx3]; rfl
  rw [← hx1, ← hx2, ← hx3] at hp2 hiss
  have h1n : 1 ≤ 8 - 1 - 1 := by decide
  have c0 := cOh hfx.c2 0
  obtain ⟨p0, p1, p2, p3⟩ := cells4 hp2
  have HFR := hdL hfx; have HP2 := hdL hp2; have HNS := hdL hnS; have HNN := hdL hnN; have HI := hdL hiss; have HPK := hdL hpk; have HENT := hdL hent; have HX := hdL (And.intro hx1 (And.intro hx2 hx3)); have HAP := hdL hap
  clear hfx hp2 hnS hnN hiss hpk hent hpre hsame hT hx1 hx2 hx3 hap hIr hBp
  cases hss : st.isSeed x
  ·rw [hss] at HI
   have HSS := hdL hss; clear hss
   gi_wp2
   refine ⟨trivial, ?_⟩
   refine (CallsIn.inRound l2 ((callsIn_wide (n := 5)).2 HI.out)).mono ?_
   rintro e W3 ⟨rfl, h3⟩
   have hp3 := (h3.block _ (loh HP2.out)).trans HP2.out
   have hf3 := HFR.out.below h3
   obtain ⟨q0, q1, q2, q3⟩ := cells4 hp3
   have o6 := cOh hf3.c6 0
   have o7 := cOh hf3.c7 0
   obtain ⟨t0, t1, t2⟩ := cells3 hf3.cT
   have HP3 := hdL hp3; have HF3 := hdL hf3
   clear hp3 hf3 h3 c0 p0 p1 p2 p3
   obtain ⟨iP, hiP, hzP0, hzP1, hzP2⟩ := info_parts infoPkg
   have hnl : (pre.filter fun q => !st.isSeed q).length = nN := HNN.out.symm
   gi_wp2_with fail
   refine UpV.startIn [(10, fun W : World => W.cell? ⟨b6, 0, none⟩ = some (.pointer (some ⟨Tb, 0, none⟩)) ∧ W.cell? ⟨Tb, 2, none⟩ = some (.slice al nN cl)), (6, fun W : World => W.cell? ⟨Bp, 0, none⟩ = some (.string T) ∧ W.cell? ⟨Bp, 1, none⟩ = some (.int .i64 x1) ∧ W.cell? ⟨Bp, 2, none⟩ = some (.int .i64 x2) ∧ W.cell? ⟨Bp, 3, none⟩ = some (.int .i64 x3))] (by kernel_rfl) (by kernel_rfl) ?_
   have hA0 : ∀ q ∈ ([(10, fun W : World => W.cell? ⟨b6, 0, none⟩ = some (.pointer (some ⟨Tb, 0, none⟩)) ∧ W.cell? ⟨Tb, 2, none⟩ = some (.slice al nN cl)), (6, fun W : World => W.cell? ⟨Bp, 0, none⟩ = some (.string T) ∧ W.cell? ⟨Bp, 1, none⟩ = some (.int .i64 x1) ∧ W.cell? ⟨Bp, 2, none⟩ = some (.int .i64 x2) ∧ W.cell? ⟨Bp, 3, none⟩ = some (.int .i64 x3))] : List (Nat × (World → Prop))), q.2 W3.drew := by
    intro q hq
    rcases List.mem_cons.1 hq with rfl | hq
    ·exact ⟨o6, t2⟩
    obtain rfl := mSg.1 hq
    exact ⟨q0, q1, q2, q3⟩
   refine UpV.tk 0 10 (v := .pointer (some ⟨Tb, 0, none⟩)) rfl (mCs ..) (Or.inl ⟨by rfl, ?_⟩) (owe_all hA0) ?_
   ·intro w hSw; obtain ⟨s0, s1⟩ := hSw; go_simp
   try simp only [Act.put, sqZ]
   refine UpV.tk 1 10 (v := .pointer (some ⟨Tb, 0, none⟩)) rfl (mCs ..) (Or.inl ⟨by rfl, ?_⟩) (owe_all hA0) ?_
   ·intro w hSw; obtain ⟨s0, s1⟩ := hSw; go_simp
   try simp only [Act.put, sqZ]
   refine UpV.tp 2 (v := .pointer (some ⟨Tb, 0, none⟩)) rfl (Or.inl ⟨by rfl, ?_⟩) (owe_all hA0) ?_
   ·intro w hSw; rfl
   try simp only [Act.put, sqZ]
   refine UpV.tp 3 (v := .pointer (some ⟨Tb, 2, none⟩)) rfl (Or.inl ⟨by rfl, ?_⟩) (owe_all hA0) ?_
   ·intro w hSw; rfl
   try simp only [Act.put, sqZ]
   refine UpV.tk 4 10 (v := .slice al nN cl) rfl (mCs ..) (Or.inl ⟨by rfl, ?_⟩) (owe_all hA0) ?_
   ·intro w hSw; obtain ⟨s0, s1⟩ := hSw; go_simp
   try simp only [Act.put, sqZ]
   refine UpV.tk 5 6 (v := .agg #[.string T, .int .i64 x1, .int .i64 x2, .int .i64 x3]) rfl (mCm _ (mCs ..)) (Or.inl ⟨by rfl, ?_⟩) (owe_all hA0) ?_
   ·intro w hSw; obtain ⟨s0, s1, s2, s3⟩ := hSw; go_simp
   try simp only [Act.put, sqZ]
   have hfd := HF3.out.below (show Below W3.heap.size W3 W3.drew from (Below.refl _ _).drew)
   obtain ⟨Wa, hwa, hba, hxa, -, -⟩ := aBk W3.drew #[.string T, .int .i64 x1, .int .i64 x2, .int .i64 x3] 41
   obtain ⟨bt, hbt⟩ : ∃ b, W3.heap.size = b := ⟨_, rfl⟩
   have hfa := hfd.below hba
   refine UpV.one 6 (by kernel_rfl) rfl ?_
   intro K hK
   try simp only [sqG]
   try go_simp
   try rw [hwa]
   try rw [hbt]
   refine hK.out _ _ (owe2 (fun _ => ⟨cOh hfa.c6 0, cOh hfa.cT 2⟩) (fun h => (by cases h))) ?_
   clear hK K
   try simp only [Act.put, sqZ]
   change Wa.heap[W3.heap.size]? = _ at hxa; rw [hbt] at hxa
   have hxq := hxa
   rw [← HPK.out] at hxq
   have hfa2 := hfa.rows' (hfa.rows.perm (List.Perm.swap _ _ []))
   have hop : ownsC Wa w.heap.size 41 4 (.slice al nN cl) nN ((pre.filter fun q => !st.isSeed q).flatMap pkL) := by have := hfa2.rows.own _ (mCs ..); unfold PRow at this; dsimp only at this; rw [hnl] at this; exact this
   refine UpV.one 7 (by kernel_rfl) rfl ?_
   intro K hK
   refine step_append_c rfl (.tmp 46) (.tmp 48) 22 22 rfl w.heap.size 41 iP _ 4 40 Tryz.underlying22 hiP hzP0 hzP1 hzP2 rfl (.slice al nN cl) (by first | rfl | (simp [Act.eval]; done) | (simp [Act.eval, Act.put]; done)) nN _ hop (.slice (some ⟨bt, 0, none⟩) 1 1) (by first | rfl | (simp [Act.eval]; done) | (simp [Act.eval, Act.put]; done)) 1 _ (src_pkb hxq) (by unfold maxLen; omega) (by omega) hfa.bel.size ?_
   intro al2 cl2 Wb hob hgb hnb
   have hfb := hfa2.rowPush hnl hgb hob hnb
   have e6 := cOh hfb.c6 0
   have e2 := cOh hfb.cT 2
   have ef := foh hfb.cT
   refine hK.out _ _ (owe2 (fun _ => ⟨e6, e2⟩) (fun h => (by cases h))) ?_
   clear hK K
   try simp only [Act.put, sqZ]
   refine UpV.tp 8 (v := .pointer (some ⟨Tb, 0, none⟩)) rfl (Or.inl ⟨by rfl, ?_⟩) (owe2 (fun _ => ⟨e6, e2⟩) (fun h => (by cases h))) ?_
   ·intro w hSw; rfl
   try simp only [Act.put, sqZ]
   refine UpV.tp 9 (v := .pointer (some ⟨Tb, 2, none⟩)) rfl (Or.inl ⟨by rfl, ?_⟩) (owe2 (fun _ => ⟨e6, e2⟩) (fun h => (by cases h))) ?_
   ·intro w hSw; rfl
   try simp only [Act.put, sqZ]
   refine UpV.one 10 (by kernel_rfl) rfl ?_
   intro K hK
   try simp only [sqG]
   try go_simp
   refine hK.out _ _ (owe2 (fun h => (by cases h)) (fun h => (by cases h))) ?_
   clear hK K
   try simp only [Act.put, sqZ]
   have hfE := (hfb.rows' (hfb.rows.perm (List.Perm.swap _ _ []))).setT 2 (.slice al2 (nN + 1) cl2) (y0 := .slice aL nS cL) (y1 := .int .i64 0) (y2 := .slice al2 (nN + 1) cl2) rfl
   refine UpV.done (by kernel_rfl) ?_
   refine NoPO.go ?_
   obtain ⟨z1, z2, z3⟩ := sdE_no (ps := pre) HSS.out
   gi_wp2
   refine ⟨hfE.ox.rnd, aL, nS, cL, al2, nN + 1, cl2, ap, cp, ?_, ?_, ?_⟩
   ·rw [z2]; exact HNS.out
   ·rw [z3, lAp, lSg, ← HNN.out]
   ·rw [z1, z2, z3]; exact hfE.base
  ·rw [hss] at HI
   have HSS := hdL hss; clear hss
   gi_wp2
   refine ⟨trivial, ?_⟩
   refine (CallsIn.inRound l2 ((callsIn_wide (n := 5)).2 HI.out)).mono ?_
   rintro e W3 ⟨rfl, h3⟩
   have hp3 := (h3.block _ (loh HP2.out)).trans HP2.out
   have hf3 := HFR.out.below h3
   obtain ⟨q0, q1, q2, q3⟩ := cells4 hp3
   have o6 := cOh hf3.c6 0
   have o7 := cOh hf3.c7 0
   obtain ⟨t0, t1, t2⟩ := cells3 hf3.cT
   have HP3 := hdL hp3; have HF3 := hdL hf3
   clear hp3 hf3 h3 c0 p0 p1 p2 p3
   obtain ⟨iE, hiE, hzE0, hzE1, hzE2⟩ := info_parts infoEnt
   obtain ⟨iP, hiP, hzP0, hzP1, hzP2⟩ := info_parts infoPkg
   have hsl : (sdE st pre).length = nS := (sdE_len st pre).trans HNS.out.symm
   have hpl : (pre.filter st.isSeed).length = nS := HNS.out.symm
   gi_wp2_with fail
   refine UpV.startIn [(15, fun W : World => W.cell? ⟨b6, 0, none⟩ = some (.pointer (some ⟨Tb, 0, none⟩)) ∧ W.cell? ⟨Tb, 0, none⟩ = some (.slice aL nS cL) ∧ W.cell? ⟨Bp, 0, none⟩ = some (.string T) ∧ W.cell? ⟨Bp, 1, none⟩ = some (.int .i64 x1) ∧ W.cell? ⟨Bp, 2, none⟩ = some (.int .i64 x2) ∧ W.cell? ⟨Bp, 3, none⟩ = some (.int .i64 x3)), (11, fun W : World => W.cell? ⟨Bp, 0, none⟩ = some (.string T) ∧ W.cell? ⟨Bp, 1, none⟩ = some (.int .i64 x1) ∧ W.cell? ⟨Bp, 2, none⟩ = some (.int .i64 x2) ∧ W.cell? ⟨Bp, 3, none⟩ = some (.int .i64 x3)), (12, fun W : World => W.cell? ⟨b7, 0, none⟩ = some (.slice ap nS cp))] (by kernel_rfl) (by kernel_rfl) ?_
   have hA0 : ∀ q ∈ ([(15, fun W : World => W.cell? ⟨b6, 0, none⟩ = some (.pointer (some ⟨Tb, 0, none⟩)) ∧ W.cell? ⟨Tb, 0, none⟩ = some (.slice aL nS cL) ∧ W.cell? ⟨Bp, 0, none⟩ = some (.string T) ∧ W.cell? ⟨Bp, 1, none⟩ = some (.int .i64 x1) ∧ W.cell? ⟨Bp, 2, none⟩ = some (.int .i64 x2) ∧ W.cell? ⟨Bp, 3, none⟩ = some (.int .i64 x3)), (11, fun W : World => W.cell? ⟨Bp, 0, none⟩ = some (.string T) ∧ W.cell? ⟨Bp, 1, none⟩ = some (.int .i64 x1) ∧ W.cell? ⟨Bp, 2, none⟩ = some (.int .i64 x2) ∧ W.cell? ⟨Bp, 3, none⟩ = some (.int .i64 x3)), (12, fun W : World => W.cell? ⟨b7, 0, none⟩ = some (.slice ap nS cp))] : List (Nat × (World → Prop))), q.2 W3.drew := by
    intro q hq
    rcases List.mem_cons.1 hq with rfl | hq
    ·exact ⟨o6, t0, q0, q1, q2, q3⟩
    rcases List.mem_cons.1 hq with rfl | hq
    ·exact ⟨q0, q1, q2, q3⟩
    obtain rfl := mSg.1 hq
    exact o7
   refine UpV.tk 0 15 (v := .pointer (some ⟨Tb, 0, none⟩)) rfl (mCs ..) (Or.inl ⟨by rfl, ?_⟩) (owe_all hA0) ?_
   ·intro w hSw; obtain ⟨s0, s1, s2, s3, s4, s5⟩ := hSw; go_simp
   try simp only [Act.put, sqZ]
   refine UpV.tk 1 15 (v := .pointer (some ⟨Tb, 0, none⟩)) rfl (mCs ..) (Or.inl ⟨by rfl, ?_⟩) (owe_all hA0) ?_
   ·intro w hSw; obtain ⟨s0, s1, s2, s3, s4, s5⟩ := hSw; go_simp
   try simp only [Act.put, sqZ]
   refine UpV.tp 2 (v := .pointer (some ⟨Tb, 0, none⟩)) rfl (Or.inl ⟨by rfl, ?_⟩) (owe_all hA0) ?_
   ·intro w hSw; rfl
   try simp only [Act.put, sqZ]
   refine UpV.tp 3 (v := .pointer (some ⟨Tb, 0, none⟩)) rfl (Or.inl ⟨by rfl, ?_⟩) (owe_all hA0) ?_
   ·intro w hSw; rfl
   try simp only [Act.put, sqZ]
   refine UpV.tk 4 15 (v := .slice aL nS cL) rfl (mCs ..) (Or.inl ⟨by rfl, ?_⟩) (owe_all hA0) ?_
   ·intro w hSw; obtain ⟨s0, s1, s2, s3, s4, s5⟩ := hSw; go_simp
   try simp only [Act.put, sqZ]
   refine UpV.tk 5 15 (v := .agg #[.string T, .int .i64 x1, .int .i64 x2, .int .i64 x3]) rfl (mCs ..) (Or.inl ⟨by rfl, ?_⟩) (owe_all hA0) ?_
   ·intro w hSw; obtain ⟨s0, s1, s2, s3, s4, s5⟩ := hSw; go_simp
   try simp only [Act.put, sqZ]
   refine UpV.tp 6 (v := .agg #[.string T, .int .i64 x1, .int .i64 x2, .int .i64 x3, .int .i64 0, .string ⟨#[]⟩, .int .i64 0, .int .i64 0, .int .i64 0, .slice none 0 0]) rfl (Or.inl ⟨by rfl, ?_⟩) (owe_all hA0) ?_
   ·intro w hSw; (try simp only [sqG]); go_simp
   try simp only [Act.put, sqZ]
   refine UpV.tk 9 12 (v := .slice ap nS cp) rfl (mCm _ (mCm _ (mCs ..))) (Or.inl ⟨by rfl, ?_⟩) (owe_all hA0) ?_
   ·intro w hSw; have s0 := hSw; go_simp
   try simp only [Act.put, sqZ]
   refine UpV.tk 10 11 (v := .agg #[.string T, .int .i64 x1, .int .i64 x2, .int .i64 x3]) rfl (mCm _ (mCs ..)) (Or.inl ⟨by rfl, ?_⟩) (owe_all hA0) ?_
   ·intro w hSw; obtain ⟨s0, s1, s2, s3⟩ := hSw; go_simp
   try simp only [Act.put, sqZ]
   have hfd := HF3.out.below (show Below W3.heap.size W3 W3.drew from (Below.refl _ _).drew)
   have hpd : W3.drew.heap[Bp]? = _ := HP3.out
   refine UpV.two 7 11 (by kernel_rfl) rfl rfl ?_ ?_
   ·obtain ⟨Wa1, hw1, hb1, hx1, -, -⟩ := aBk W3.drew #[.string T, .int .i64 x1, .int .i64 x2, .int .i64 x3, .int .i64 0, .string ⟨#[]⟩, .int .i64 0, .int .i64 0, .int .i64 0, .slice none 0 0] 45
    obtain ⟨bt1, hbe1⟩ : ∃ b, W3.heap.size = b := ⟨_, rfl⟩
    have hf1 := hfd.below hb1
    have hp1 := (hb1.block _ (loh hpd)).trans hpd
    intro K hK
    try simp only [sqG]
    try go_simp
    try rw [hw1]
    try rw [hbe1]
    refine hK.out _ _ (owe3 (fun _ => ⟨cOh hf1.c6 0, cOh hf1.cT 0, cOh hp1 0, cOh hp1 1, cOh hp1 2, cOh hp1 3⟩) (fun _ => ⟨cOh hp1 0, cOh hp1 1, cOh hp1 2, cOh hp1 3⟩) (fun _ => cOh hf1.c7 0)) ?_
    clear hK K
    try simp only [Act.put, sqZ]
    change Wa1.heap[W3.heap.size]? = _ at hx1; rw [hbe1] at hx1
    refine UpV.two 8 11 (by kernel_rfl) rfl rfl ?_ ?_
    ·have how2 := hf1.list
     rw [hsl] at how2
     have hxq2 := hx1
     rw [← HENT.out] at hxq2
     intro K hK
     refine step_append_c rfl (.tmp 31) (.tmp 34) 68 68 rfl w.heap.size 45 iE _ 10 112 Tryz.underlying68 hiE hzE0 hzE1 hzE2 rfl (.slice aL nS cL) (by first | rfl | (simp [Act.eval]; done) | (simp [Act.eval, Act.put]; done)) nS _ how2 (.slice (some ⟨bt1, 0, none⟩) 1 1) (by first | rfl | (simp [Act.eval]; done) | (simp [Act.eval, Act.put]; done)) 1 _ (src_ent hxq2) (by unfold maxLen; omega) (by omega) hf1.bel.size ?_
     intro aL2 cL2 Wa2 hoa2 hga2 _
     have hf2 := hf1.listPush hsl hga2 hoa2
     have hka2 : KP 45 Wa1 Wa2 := KP.grown hga2 how2
     have hp2 := hka2 _ _ _ _ (by decide) hp1
     refine hK.out _ _ (owe3 (fun _ => ⟨cOh hf2.c6 0, cOh hf2.cT 0, cOh hp2 0, cOh hp2 1, cOh hp2 2, cOh hp2 3⟩) (fun _ => ⟨cOh hp2 0, cOh hp2 1, cOh hp2 2, cOh hp2 3⟩) (fun _ => cOh hf2.c7 0)) ?_
     clear hK K
     try simp only [Act.put, sqZ]
     refine UpV.one 11 (by kernel_rfl) rfl ?_
     obtain ⟨Wa3, hw3, hb3, hx3, -, -⟩ := aBk Wa2 #[.string T, .int .i64 x1, .int .i64 x2, .int .i64 x3] 41
     obtain ⟨bt3, hbe3⟩ : ∃ b, Wa2.heap.size = b := ⟨_, rfl⟩
     have hf3 := hf2.below hb3
     have hp3 := (hb3.block _ (loh hp2)).trans hp2
     intro K hK
     try simp only [sqG]
     try go_simp
     try rw [hw3]
     try rw [hbe3]
     refine hK.out _ _ (owe3 (fun _ => ⟨cOh hf3.c6 0, cOh hf3.cT 0, cOh hp3 0, cOh hp3 1, cOh hp3 2, cOh hp3 3⟩) (fun h => (by cases h)) (fun _ => cOh hf3.c7 0)) ?_
     clear hK K
     try simp only [Act.put, sqZ]
     rw [hbe3] at hx3
     refine UpV.one 12 (by kernel_rfl) rfl ?_
     have hop4 : ownsC Wa3 w.heap.size 41 4 (.slice ap nS cp) nS ((pre.filter st.isSeed).flatMap pkL) := by have := hf3.rows.own _ (mCs ..); unfold PRow at this; dsimp only at this; rw [hpl] at this; exact this
     have hxq4 := hx3
     rw [← HPK.out] at hxq4
     intro K hK
     refine step_append_c rfl (.tmp 36) (.tmp 38) 22 22 rfl w.heap.size 41 iP _ 4 40 Tryz.underlying22 hiP hzP0 hzP1 hzP2 rfl (.slice ap nS cp) (by first | rfl | (simp [Act.eval]; done) | (simp [Act.eval, Act.put]; done)) nS _ hop4 (.slice (some ⟨bt3, 0, none⟩) 1 1) (by first | rfl | (simp [Act.eval]; done) | (simp [Act.eval, Act.put]; done)) 1 _ (src_pkb hxq4) (by unfold maxLen; omega) (by omega) hf3.bel.size ?_
     intro ap4 cp4 Wa4 hob4 hgb4 hnb4
     have hf4 := hf3.rowPush hpl hgb4 hob4 hnb4
     have hp4 := (hgb4.block _ (loh hp3) (fun e => by have := HAP.out Bp e.symm; omega)).trans hp3
     refine hK.out _ _ (owe3 (fun _ => ⟨cOh hf4.c6 0, cOh hf4.cT 0, cOh hp4 0, cOh hp4 1, cOh hp4 2, cOh hp4 3⟩) (fun h => (by cases h)) (fun h => (by cases h))) ?_
     clear hK K
     try simp only [Act.put, sqZ]
     have e6 := cOh hf4.c6 0
     have eT := cOh hf4.cT 0
     have eTf := foh hf4.cT
     have hS1c : (fun W : World => W.cell? ⟨b6, 0, none⟩ = some (.pointer (some ⟨Tb, 0, none⟩)) ∧ W.cell? ⟨Tb, 0, none⟩ = some (.slice aL nS cL) ∧ W.cell? ⟨Bp, 0, none⟩ = some (.string T) ∧ W.cell? ⟨Bp, 1, none⟩ = some (.int .i64 x1) ∧ W.cell? ⟨Bp, 2, none⟩ = some (.int .i64 x2) ∧ W.cell? ⟨Bp, 3, none⟩ = some (.int .i64 x3)) Wa4 := ⟨e6, eT, cOh hp4 0, cOh hp4 1, cOh hp4 2, cOh hp4 3⟩
     refine UpV.tp 13 (v := .pointer (some ⟨Tb, 0, none⟩)) rfl (Or.inl ⟨by rfl, ?_⟩) (owe3 (fun _ => hS1c) (fun h => (by cases h)) (fun h => (by cases h))) ?_
     ·intro w hSw; rfl
     try simp only [Act.put, sqZ]
     refine UpV.tp 14 (v := .pointer (some ⟨Tb, 0, none⟩)) rfl (Or.inl ⟨by rfl, ?_⟩) (owe3 (fun _ => hS1c) (fun h => (by cases h)) (fun h => (by cases h))) ?_
     ·intro w hSw; rfl
     try simp only [Act.put, sqZ]
     refine UpV.one 15 (by kernel_rfl) rfl ?_
     intro K hK
     try simp only [sqG]
     try go_simp
     refine hK.out _ _ (owe3 (fun h => (by cases h)) (fun h => (by cases h)) (fun h => (by cases h))) ?_
     clear hK K
     try simp only [Act.put, sqZ]
     have hfS := hf4.setT 0 (.slice aL2 (nS + 1) cL2) (y0 := .slice aL2 (nS + 1) cL2) (y1 := .int .i64 0) (y2 := .slice al nN cl) rfl
     have e7 := cOh hfS.c7 0
     have e7f := foh hfS.c7
     refine UpV.one 16 (by kernel_rfl) rfl ?_
     intro K hK
     try simp only [sqG]
     try go_simp
     refine hK.out _ _ (owe3 (fun h => (by cases h)) (fun h => (by cases h)) (fun h => (by cases h))) ?_
     clear hK K
     try simp only [Act.put, sqZ]
     have hfE := hfS.setP (.slice ap4 (nS + 1) cp4)
     refine UpV.done (by kernel_rfl) ?_
     refine NoPO.go ?_
     obtain ⟨z1, z2, z3⟩ := sdE_yes (ps := pre) HSS.out
     gi_wp2
     refine ⟨hfE.ox.rnd, aL2, nS + 1, cL2, al, nN, cl, ap4, cp4, ?_, ?_, ?_⟩
     ·rw [z2, lAp, lSg, ← HNS.out]
     ·rw [z3]; exact HNN.out
     ·rw [z1, z2, z3]; exact hfE.base
    ·obtain ⟨Wa5, hw5, hb5, hx5, -, -⟩ := aBk Wa1 #[.string T, .int .i64 x1, .int .i64 x2, .int .i64 x3] 41
     obtain ⟨bt5, hbe5⟩ : ∃ b, Wa1.heap.size = b := ⟨_, rfl⟩
     have hf5 := hf1.below hb5
     have hp5 := (hb5.block _ (loh hp1)).trans hp1
     intro K hK
     try simp only [sqG]
     try go_simp
     try rw [hw5]
     try rw [hbe5]
     refine hK.out _ _ (owe3 (fun _ => ⟨cOh hf5.c6 0, cOh hf5.cT 0, cOh hp5 0, cOh hp5 1, cOh hp5 2, cOh hp5 3⟩) (fun h => (by cases h)) (fun _ => cOh hf5.c7 0)) ?_
     clear hK K
     try simp only [Act.put, sqZ]
     rw [hbe5] at hx5
     have hxe5 := (hb5.block _ (loh hx1)).trans hx1
     refine UpV.one 8 (by kernel_rfl) rfl ?_
     have how6 := hf5.list
     rw [hsl] at how6
     have hxq6 := hxe5
     rw [← HENT.out] at hxq6
     intro K hK
     refine step_append_c rfl (.tmp 31) (.tmp 34) 68 68 rfl w.heap.size 45 iE _ 10 112 Tryz.underlying68 hiE hzE0 hzE1 hzE2 rfl (.slice aL nS cL) (by first | rfl | (simp [Act.eval]; done) | (simp [Act.eval, Act.put]; done)) nS _ how6 (.slice (some ⟨bt1, 0, none⟩) 1 1) (by first | rfl | (simp [Act.eval]; done) | (simp [Act.eval, Act.put]; done)) 1 _ (src_ent hxq6) (by unfold maxLen; omega) (by omega) hf5.bel.size ?_
     intro aL6 cL6 Wa6 hoa6 hga6 _
     have hf6 := hf5.listPush hsl hga6 hoa6
     have hka6 : KP 45 Wa5 Wa6 := KP.grown hga6 how6
     have hp6 := hka6 _ _ _ _ (by decide) hp5
     have hxp6 := hka6 _ _ _ _ (by decide) hx5
     refine hK.out _ _ (owe3 (fun _ => ⟨cOh hf6.c6 0, cOh hf6.cT 0, cOh hp6 0, cOh hp6 1, cOh hp6 2, cOh hp6 3⟩) (fun h => (by cases h)) (fun _ => cOh hf6.c7 0)) ?_
     clear hK K
     try simp only [Act.put, sqZ]
     refine UpV.one 12 (by kernel_rfl) rfl ?_
     have hop7 : ownsC Wa6 w.heap.size 41 4 (.slice ap nS cp) nS ((pre.filter st.isSeed).flatMap pkL) := by have := hf6.rows.own _ (mCs ..); unfold PRow at this; dsimp only at this; rw [hpl] at this; exact this
     have hxq7 := hxp6
     rw [← HPK.out] at hxq7
     intro K hK
     refine step_append_c rfl (.tmp 36) (.tmp 38) 22 22 rfl w.heap.size 41 iP _ 4 40 Tryz.underlying22 hiP hzP0 hzP1 hzP2 rfl (.slice ap nS cp) (by first | rfl | (simp [Act.eval]; done) | (simp [Act.eval, Act.put]; done)) nS _ hop7 (.slice (some ⟨bt5, 0, none⟩) 1 1) (by first | rfl | (simp [Act.eval]; done) | (simp [Act.eval, Act.put]; done)) 1 _ (src_pkb hxq7) (by unfold maxLen; omega) (by omega) hf6.bel.size ?_
     intro ap7 cp7 Wa7 hob7 hgb7 hnb7
     have hf7 := hf6.rowPush hpl hgb7 hob7 hnb7
     have hp7 := (hgb7.block _ (loh hp6) (fun e => by have := HAP.out Bp e.symm; omega)).trans hp6
     refine hK.out _ _ (owe3 (fun _ => ⟨cOh hf7.c6 0, cOh hf7.cT 0, cOh hp7 0, cOh hp7 1, cOh hp7 2, cOh hp7 3⟩) (fun h => (by cases h)) (fun h => (by cases h))) ?_
     clear hK K
     try simp only [Act.put, sqZ]
     have e6 := cOh hf7.c6 0
     have eT := cOh hf7.cT 0
     have eTf := foh hf7.cT
     have hS1c : (fun W : World => W.cell? ⟨b6, 0, none⟩ = some (.pointer (some ⟨Tb, 0, none⟩)) ∧ W.cell? ⟨Tb, 0, none⟩ = some (.slice aL nS cL) ∧ W.cell? ⟨Bp, 0, none⟩ = some (.string T) ∧ W.cell? ⟨Bp, 1, none⟩ = some (.int .i64 x1) ∧ W.cell? ⟨Bp, 2, none⟩ = some (.int .i64 x2) ∧ W.cell? ⟨Bp, 3, none⟩ = some (.int .i64 x3)) Wa7 := ⟨e6, eT, cOh hp7 0, cOh hp7 1, cOh hp7 2, cOh hp7 3⟩
     refine UpV.tp 13 (v := .pointer (some ⟨Tb, 0, none⟩)) rfl (Or.inl ⟨by rfl, ?_⟩) (owe3 (fun _ => hS1c) (fun h => (by cases h)) (fun h => (by cases h))) ?_
     ·intro w hSw; rfl
     try simp only [Act.put, sqZ]
     refine UpV.tp 14 (v := .pointer (some ⟨Tb, 0, none⟩)) rfl (Or.inl ⟨by rfl, ?_⟩) (owe3 (fun _ => hS1c) (fun h => (by cases h)) (fun h => (by cases h))) ?_
     ·intro w hSw; rfl
     try simp only [Act.put, sqZ]
     refine UpV.one 15 (by kernel_rfl) rfl ?_
     intro K hK
     try simp only [sqG]
     try go_simp
     refine hK.out _ _ (owe3 (fun h => (by cases h)) (fun h => (by cases h)) (fun h => (by cases h))) ?_
     clear hK K
     try simp only [Act.put, sqZ]
     have hfS := hf7.setT 0 (.slice aL6 (nS + 1) cL6) (y0 := .slice aL6 (nS + 1) cL6) (y1 := .int .i64 0) (y2 := .slice al nN cl) rfl
     have e7 := cOh hfS.c7 0
     have e7f := foh hfS.c7
     refine UpV.one 16 (by kernel_rfl) rfl ?_
     intro K hK
     try simp only [sqG]
     try go_simp
     refine hK.out _ _ (owe3 (fun h => (by cases h)) (fun h => (by cases h)) (fun h => (by cases h))) ?_
     clear hK K
     try simp only [Act.put, sqZ]
     have hfE := hfS.setP (.slice ap7 (nS + 1) cp7)
     refine UpV.done (by kernel_rfl) ?_
     refine NoPO.go ?_
     obtain ⟨z1, z2, z3⟩ := sdE_yes (ps := pre) HSS.out
     gi_wp2
     refine ⟨hfE.ox.rnd, aL6, nS + 1, cL6, al, nN, cl, ap7, cp7, ?_, ?_, ?_⟩
     ·rw [z2, lAp, lSg, ← HNS.out]
     ·rw [z3]; exact HNN.out
     ·rw [z1, z2, z3]; exact hfE.base
   ·obtain ⟨Wa8, hw8, hb8, hx8, -, -⟩ := aBk W3.drew #[.string T, .int .i64 x1, .int .i64 x2, .int .i64 x3] 41
    obtain ⟨bt8, hbe8⟩ : ∃ b, W3.heap.size = b := ⟨_, rfl⟩
    have hf8 := hfd.below hb8
    have hp8 := (hb8.block _ (loh hpd)).trans hpd
    intro K hK
    try simp only [sqG]
    try go_simp
    try rw [hw8]
    try rw [hbe8]
    refine hK.out _ _ (owe3 (fun _ => ⟨cOh hf8.c6 0, cOh hf8.cT 0, cOh hp8 0, cOh hp8 1, cOh hp8 2, cOh hp8 3⟩) (fun h => (by cases h)) (fun _ => cOh hf8.c7 0)) ?_
    clear hK K
    try simp only [Act.put, sqZ]
    change Wa8.heap[W3.heap.size]? = _ at hx8; rw [hbe8] at hx8
    refine UpV.one 7 (by kernel_rfl) rfl ?_
    obtain ⟨Wa9, hw9, hb9, hx9, -, -⟩ := aBk Wa8 #[.string T, .int .i64 x1, .int .i64 x2, .int .i64 x3, .int .i64 0, .string ⟨#[]⟩, .int .i64 0, .int .i64 0, .int .i64 0, .slice none 0 0] 45
    obtain ⟨bt9, hbe9⟩ : ∃ b, Wa8.heap.size = b := ⟨_, rfl⟩
    have hf9 := hf8.below hb9
    have hp9 := (hb9.block _ (loh hp8)).trans hp8
    intro K hK
    try simp only [sqG]
    try go_simp
    try rw [hw9]
    try rw [hbe9]
    refine hK.out _ _ (owe3 (fun _ => ⟨cOh hf9.c6 0, cOh hf9.cT 0, cOh hp9 0, cOh hp9 1, cOh hp9 2, cOh hp9 3⟩) (fun h => (by cases h)) (fun _ => cOh hf9.c7 0)) ?_
    clear hK K
    try simp only [Act.put, sqZ]
    rw [hbe9] at hx9
    have hxp9 := (hb9.block _ (loh hx8)).trans hx8
    refine UpV.one 8 (by kernel_rfl) rfl ?_
    have how10 := hf9.list
    rw [hsl] at how10
    have hxq10 := hx9
    rw [← HENT.out] at hxq10
    intro K hK
    refine step_append_c rfl (.tmp 31) (.tmp 34) 68 68 rfl w.heap.size 45 iE _ 10 112 Tryz.underlying68 hiE hzE0 hzE1 hzE2 rfl (.slice aL nS cL) (by first | rfl | (simp [Act.eval]; done) | (simp [Act.eval, Act.put]; done)) nS _ how10 (.slice (some ⟨bt9, 0, none⟩) 1 1) (by first | rfl | (simp [Act.eval]; done) | (simp [Act.eval, Act.put]; done)) 1 _ (src_ent hxq10) (by unfold maxLen; omega) (by omega) hf9.bel.size ?_
    intro aL10 cL10 Wa10 hoa10 hga10 _
    have hf10 := hf9.listPush hsl hga10 hoa10
    have hka10 : KP 45 Wa9 Wa10 := KP.grown hga10 how10
    have hp10 := hka10 _ _ _ _ (by decide) hp9
    have hxp10 := hka10 _ _ _ _ (by decide) hxp9
    refine hK.out _ _ (owe3 (fun _ => ⟨cOh hf10.c6 0, cOh hf10.cT 0, cOh hp10 0, cOh hp10 1, cOh hp10 2, cOh hp10 3⟩) (fun h => (by cases h)) (fun _ => cOh hf10.c7 0)) ?_
    clear hK K
    try simp only [Act.put, sqZ]
    refine UpV.one 12 (by kernel_rfl) rfl ?_
    have hop11 : ownsC Wa10 w.heap.size 41 4 (.slice ap nS cp) nS ((pre.filter st.isSeed).flatMap pkL) := by have := hf10.rows.own _ (mCs ..); unfold PRow at this; dsimp only at this; rw [hpl] at this; exact this
    have hxq11 := hxp10
    rw [← HPK.out] at hxq11
    intro K hK
    refine step_append_c rfl (.tmp 36) (.tmp 38) 22 22 rfl w.heap.size 41 iP _ 4 40 Tryz.underlying22 hiP hzP0 hzP1 hzP2 rfl (.slice ap nS cp) (by first | rfl | (simp [Act.eval]; done) | (simp [Act.eval, Act.put]; done)) nS _ hop11 (.slice (some ⟨bt8, 0, none⟩) 1 1) (by first | rfl | (simp [Act.eval]; done) | (simp [Act.eval, Act.put]; done)) 1 _ (src_pkb hxq11) (by unfold maxLen; omega) (by omega) hf10.bel.size ?_
    intro ap11 cp11 Wa11 hob11 hgb11 hnb11
    have hf11 := hf10.rowPush hpl hgb11 hob11 hnb11
    have hp11 := (hgb11.block _ (loh hp10) (fun e => by have := HAP.out Bp e.symm; omega)).trans hp10
    refine hK.out _ _ (owe3 (fun _ => ⟨cOh hf11.c6 0, cOh hf11.cT 0, cOh hp11 0, cOh hp11 1, cOh hp11 2, cOh hp11 3⟩) (fun h => (by cases h)) (fun h => (by cases h))) ?_
    clear hK K
    try simp only [Act.put, sqZ]
    have e6 := cOh hf11.c6 0
    have eT := cOh hf11.cT 0
    have eTf := foh hf11.cT
    have hS1c : (fun W : World => W.cell? ⟨b6, 0, none⟩ = some (.pointer (some ⟨Tb, 0, none⟩)) ∧ W.cell? ⟨Tb, 0, none⟩ = some (.slice aL nS cL) ∧ W.cell? ⟨Bp, 0, none⟩ = some (.string T) ∧ W.cell? ⟨Bp, 1, none⟩ = some (.int .i64 x1) ∧ W.cell? ⟨Bp, 2, none⟩ = some (.int .i64 x2) ∧ W.cell? ⟨Bp, 3, none⟩ = some (.int .i64 x3)) Wa11 := ⟨e6, eT, cOh hp11 0, cOh hp11 1, cOh hp11 2, cOh hp11 3⟩
    refine UpV.tp 13 (v := .pointer (some ⟨Tb, 0, none⟩)) rfl (Or.inl ⟨by rfl, ?_⟩) (owe3 (fun _ => hS1c) (fun h => (by cases h)) (fun h => (by cases h))) ?_
    ·intro w hSw; rfl
    try simp only [Act.put, sqZ]
    refine UpV.tp 14 (v := .pointer (some ⟨Tb, 0, none⟩)) rfl (Or.inl ⟨by rfl, ?_⟩) (owe3 (fun _ => hS1c) (fun h => (by cases h)) (fun h => (by cases h))) ?_
    ·intro w hSw; rfl
    try simp only [Act.put, sqZ]
    refine UpV.one 15 (by kernel_rfl) rfl ?_
    intro K hK
    try simp only [sqG]
    try go_simp
    refine hK.out _ _ (owe3 (fun h => (by cases h)) (fun h => (by cases h)) (fun h => (by cases h))) ?_
    clear hK K
    try simp only [Act.put, sqZ]
    have hfS := hf11.setT 0 (.slice aL10 (nS + 1) cL10) (y0 := .slice aL10 (nS + 1) cL10) (y1 := .int .i64 0) (y2 := .slice al nN cl) rfl
    have e7 := cOh hfS.c7 0
    have e7f := foh hfS.c7
    refine UpV.one 16 (by kernel_rfl) rfl ?_
    intro K hK
    try simp only [sqG]
    try go_simp
    refine hK.out _ _ (owe3 (fun h => (by cases h)) (fun h => (by cases h)) (fun h => (by cases h))) ?_
    clear hK K
    try simp only [Act.put, sqZ]
    have hfE := hfS.setP (.slice ap11 (nS + 1) cp11)
    refine UpV.done (by kernel_rfl) ?_
    refine NoPO.go ?_
    obtain ⟨z1, z2, z3⟩ := sdE_yes (ps := pre) HSS.out
    gi_wp2
    refine ⟨hfE.ox.rnd, aL10, nS + 1, cL10, al, nN, cl, ap11, cp11, ?_, ?_, ?_⟩
    ·rw [z2, lAp, lSg, ← HNS.out]
    ·rw [z3]; exact HNN.out
    ·rw [z1, z2, z3]; exact hfE.base
 case done =>
  rintro D ys V hD rfl ⟨aL, nS, cL, al, nN, cl, ap, cp, hnS, hnN, hfx⟩ hK
  obtain ⟨es0, hes0⟩ : ∃ es, es = sdE st st.all := ⟨_, rfl⟩
  rw [← hes0] at hfx
  have he1 : es0.map Prod.fst = seeds0 st := by rw [hes0]; unfold sdE seeds0; rw [List.map_map]; rfl
  have he2 : (es0.map Prod.fst).map Ent.pkg = st.all.filter st.isSeed := by rw [he1]; unfold seeds0; rw [List.map_map]; exact (List.map_congr_left (fun _ _ => rfl)).trans (List.map_id _)
  have he3 : es0.length = nS := by rw [hes0, hnS]; exact sdE_len st st.all
  have hle : nS + nN ≤ 40 := by
   have h1 := (List.filter_append_perm st.isSeed st.all).length_eq
   have h2 := HALEN.out
   have h3 := HFEW.out
   rw [lAp] at h1
   rw [hnS, hnN]
   omega
  have hrows := hfx.rows.nils (es0.map withR) (fun r hr => by
   obtain ⟨x, hx, rfl⟩ := List.mem_map.1 hr
   rw [hes0] at hx
   obtain ⟨p, -, rfl⟩ := List.mem_map.1 hx
   rfl)
  have hfx0 := hfx.rows' hrows
  rw [← he2] at hfx0
  have hfix : fixF st left ((less0 st).length + 1) 1 0 (es0.map Prod.fst) (less0 st) = fixT st left := by rw [he1]; rfl
  have hch0 : ∀ x ∈ es0, x.1.choice.2.length ≤ 2000 := fun x hx => by rw [hes0] at hx; obtain ⟨p, -, rfl⟩ := List.mem_map.1 hx; exact Nat.zero_le _
  have HCH0 := hdL hch0; have HFX0 := hdL hfx0; have HFIX := hdL hfix; have HK := hdL hK; have HE3 := hdL he3; have HNN := hdL hnN; have HVD := hdL hD
  clear hch0 hfx hrows hfx0 hfix hK he1 he2 he3 hnS hnN hes0 HFX HFX5 HST HISS HAST
  go_wp2_with fail
  go_loopw [9] (fun x wr => ∃ (s f : Nat) (made : Int) (es : List EV) (less : List Pk) (aL : Option Addr) (nL cL : Nat) (al : Option Addr) (nl cl : Nat) (ap : Option Addr) (cp : Nat), x = .int .i64 s ∧ 1 ≤ s ∧ s + nl ≤ 50 ∧ nL + nl ≤ 40 ∧ 0 ≤ made ∧ made ≤ max left 0 ∧ nl + 1 ≤ f ∧ Hid (nL = es.length) ∧ Hid (nl = less.length) ∧ Hid (fixF st left f s made (es.map Prod.fst) less = fixT st left) ∧ Hid (∀ x ∈ es, x.1.choice.2.length ≤ 2000) ∧ Hid (Fx w V wr b2 b6 b7 Tb B (.slice aL nL cL) (.int .i64 made) (.slice al nl cl) (.slice ap nL cp) (.slice aL nL cL) es ((.slice ap nL cp, (es.map Prod.fst).map Ent.pkg) :: (.slice al nl cl, less) :: es.map withR))) (fun x _ => 100 - (intOf x).toNat)
  case atStart => exact ⟨1, (less0 st).length + 1, 0, es0, less0 st, aL, nS, cL, al, nN, cl, ap, cp, rfl, Nat.le_refl _, by omega, hle, Int.le_refl _, by omega, by have := HNN.out; show nN + 1 ≤ _ + 1; rw [this]; exact Nat.le_refl _, hdL HE3.out.symm, HNN, HFIX, HCH0, HFX0⟩
  case round =>
   obtain ⟨s, f, made, es, less, aL, nL, cL, al, nl, cl, ap, cp, rfl, hs1, hs2, hnn, hm0, hm1, hf, hnL, hnl, hfix, hcl, hfx⟩ := hrel
   obtain ⟨w0, hw0⟩ : ∃ W, W = wr := ⟨_, rfl⟩
   subst hw0
   have o6 := cOh hfx.out.c6 0
   have t2 := cOh hfx.out.cT 2
   go_wp2_with fail
   go_loopw [10, 11, 59] (fun m l i wr => ∃ (k : Nat) (mk : Int) (es2 : List EV) (l2 : List Pk) (aE : Option Addr) (nE cE : Nat) (am : Option Addr) (nm cm : Nat) (a2 : Option Addr) (n2 c2 : Nat), m = .slice am nm cm ∧ l = .slice a2 n2 c2 ∧ i = .int .i64 k ∧ k ≤ nl ∧ (nm + n2 ≤ k ∧ k ≤ nm + n2) ∧ (nE ≤ nL + nm ∧ nL + nm ≤ nE) ∧ 0 ≤ mk ∧ mk ≤ max left 0 ∧ Hid (nm = es2.length) ∧ Hid (n2 = l2.length) ∧ Hid (roundT st ((es.map Prod.fst).map Ent.pkg) left s less made = (roundT st ((es.map Prod.fst).map Ent.pkg) left s (less.drop k) mk).map (rF (es2.map Prod.fst) l2)) ∧ Hid (∀ x ∈ es ++ es2, x.1.choice.2.length ≤ 2000) ∧ Hid (Fx w V wr b2 b6 b7 Tb B (.slice aE nE cE) (.int .i64 mk) (.slice al nl cl) (.slice ap nL cp) (.slice aE nE cE) (es ++ es2) ((.slice am nm cm, (es2.map Prod.fst).map Ent.pkg) :: (.slice a2 n2 c2, l2) :: (.slice ap nL cp, (es.map Prod.fst).map Ent.pkg) :: (.slice al nl cl, less) :: (es ++ es2).map withR))) (fun _ _ i _ => nl - (intOf i).toNat)
   case atStart =>
    refine ⟨0, made, [], [], aL, nL, cL, none, 0, 0, none, 0, 0, rfl, rfl, rfl, Nat.zero_le _, by omega, by omega, hm0, hm1, hdL rfl, hdL rfl, hdL ?_, hdL (by rw [List.append_nil]; exact hcl.out), hdL ?_⟩
    ·rw [List.drop_zero]
     cases roundT st ((es.map Prod.fst).map Ent.pkg) left s less made <;> rfl
    ·rw [List.append_nil]
     exact hfx.out.rows' (hfx.out.rows.consNil.consNil)
   case round =>
    obtain ⟨k, mk, es2, l2, aE, nE, cE, am, nm, cm, a2, n2, c2, rfl, rfl, rfl, hk, hnk, hnE, hk0, hk1, hnm, hn2, hrd, hcl2, hfi⟩ := hrel
    obtain ⟨W0, hW0⟩ : ∃ W, W = wr := ⟨_, rfl⟩
    subst hW0
    by_cases hlt : k < nl
    ·obtain ⟨q, hq⟩ : ∃ q, less[k]? = some q := ⟨_, gEg (by rw [← hnl.out]; exact hlt)⟩
     have hpl := (hfi.out.rows.own (.slice al nl cl, less) (by simp)).at (by show less.length ≤ _; rw [← hnl.out]; omega)
     obtain ⟨bQ, oQ, S, rfl, hS, f0, f1, f2, f3⟩ := hpl.cells hq
     obtain ⟨q1, hq1⟩ : ∃ y, y = q.2.1 := ⟨_, rfl⟩
     obtain ⟨q2, hq2⟩ : ∃ y, y = q.2.2.1 := ⟨_, rfl⟩
     obtain ⟨q3, hq3⟩ : ∃ y, y = q.2.2.2 := ⟨_, rfl⟩
     rw [← hq1] at f1; rw [← hq2] at f2; rw [← hq3] at f3
     obtain ⟨Wp, hWp, hbp, hxp, y1, y2⟩ := aBk W0 #[.string S, .int .i64 q1, .int .i64 q2, .int .i64 q3] 41
     obtain ⟨bp, hbpe⟩ : ∃ b, W0.heap.size = b := ⟨_, rfl⟩
     rw [hbpe] at hxp
     have hfp := hfi.out.below hbp
     have hrl := fun g hg => ((hfi.out.rows.own _ (mCs ..)).lt (g := g) hg).2
     have hrl2 := fun g hg => ((hfi.out.rows.own (.slice a2 n2 c2, l2) (by simp)).lt (g := g) hg).2
     rw [hbpe] at hrl hrl2
     have hpool := fun W (hW : Below Wp.heap.size Wp W) => ((hfp.below hW).rows.own (.slice ap nL cp, (es.map Prod.fst).map Ent.pkg) (by simp)).at (by show ((es.map Prod.fst).map Ent.pkg).length ≤ _; rw [List.length_map, List.length_map, ← hnL.out]; omega)
     have hso := fun W (hW : Below Wp.heap.size Wp W) => HSOL.out W (hfp.bel.trans (hW.mono hfp.bel.size)) q _ _ _ (hpool W hW) (max left 0 - mk) (by omega)
     rw [hS, ← hq1, ← hq2, ← hq3] at hso
     obtain ⟨⟨⟨t, ch⟩, nD, e0⟩, hres⟩ : ∃ r, solveT st q ((es.map Prod.fst).map Ent.pkg) (max left 0 - mk) = r := ⟨_, rfl⟩
     rw [hres] at hso
     obtain ⟨nd0, -, nd1, -⟩ := solveT_nums hres
     obtain ⟨ta, hta⟩ : ∃ y, y = t.2.1 := ⟨_, rfl⟩
     obtain ⟨tb, htb⟩ : ∃ y, y = t.2.2.1 := ⟨_, rfl⟩
     obtain ⟨tc, htc⟩ : ∃ y, y = t.2.2.2 := ⟨_, rfl⟩
     have hpk : (pkL q).toArray = #[.string S, .int .i64 q1, .int .i64 q2, .int .i64 q3] := by unfold pkL; rw [hS, ← hq1, ← hq2, ← hq3]
     have HQ := hdL hq; have HFP := hdL hfp; have HSO := hdL hso; have HRES := hdL hres; have HXP := hdL hxp; have HPK := hdL hpk; have HRL := hdL hrl; have HRL2 := hdL hrl2; have HT := hdL (And.intro hta (And.intro htb htc)); have HSQ := hdL (And.intro hS (And.intro hq1 (And.intro hq2 hq3))); have HBE := hdL hbpe
     clear hq hpl hS hq1 hq2 hq3 hbp hxp hfp hrl hrl2 hpool hso hres hpk hta htb htc y1 y2 hbpe
     go_upto_region 16 with fail
     clear f0 f1 f2 f3 o6 t2
     try rw [HBE.out]
     go_cut [14, 15, 16] from 60 to 113 (fun c n e wx => ∃ (bc : Nat) (sT : ByteArray) (a : Option Addr) (m kc : Nat), c = .pointer (some ⟨bc, 0, none⟩) ∧ n = .int .i64 nD ∧ e = .int .i64 e0 ∧ Hid (m = ch.length) ∧ Hid (strV t.1 = .string sT) ∧ Hid (wx.heap[bc]? = some (.cells #[.string sT, .int .i64 ta, .int .i64 tb, .int .i64 tc, .slice a m kc] 43 (0, 0))) ∧ Hid (ownsC wx Wp.heap.size 41 4 (.slice a m kc) ch.length (ch.flatMap pkL)) ∧ Hid (Below Wp.heap.size Wp wx))
     case first =>
      have hc2 := HFP.out.c2
      have hc6 := HFP.out.c6
      have hc7 := HFP.out.c7
      have hcT := HFP.out.cT
      have hcp := HXP.out
      have hS16 : ∀ W, Below Wp.heap.size Wp W → (fun W : World => W.cell? ⟨b2, 0, none⟩ = some (.pointer (some ⟨B, 0, none⟩)) ∧ W.cell? ⟨b6, 0, none⟩ = some (.pointer (some ⟨Tb, 0, none⟩)) ∧ W.cell? ⟨b7, 0, none⟩ = some (.slice ap nL cp) ∧ W.cell? ⟨Tb, 1, none⟩ = some (.int .i64 mk) ∧ W.cell? ⟨bp, 0, none⟩ = some (.string S) ∧ W.cell? ⟨bp, 1, none⟩ = some (.int .i64 q1) ∧ W.cell? ⟨bp, 2, none⟩ = some (.int .i64 q2) ∧ W.cell? ⟨bp, 3, none⟩ = some (.int .i64 q3)) W := fun W hW => ⟨bkp hW _ _ (cOh hc2 0), bkp hW _ _ (cOh hc6 0), bkp hW _ _ (cOh hc7 0), bkp hW _ _ (cOh hcT 1), bkp hW _ _ (cOh hcp 0), bkp hW _ _ (cOh hcp 1), bkp hW _ _ (cOh hcp 2), bkp hW _ _ (cOh hcp 3)⟩
      have hbd := (Below.refl Wp.heap.size Wp).drew
      have HS16 := hdL hS16
      clear hc2 hc6 hc7 hcT hcp hS16
      refine wp_noP ?_
      refine UpV.start [(16, fun W : World => W.cell? ⟨b2, 0, none⟩ = some (.pointer (some ⟨B, 0, none⟩)) ∧ W.cell? ⟨b6, 0, none⟩ = some (.pointer (some ⟨Tb, 0, none⟩)) ∧ W.cell? ⟨b7, 0, none⟩ = some (.slice ap nL cp) ∧ W.cell? ⟨Tb, 1, none⟩ = some (.int .i64 mk) ∧ W.cell? ⟨bp, 0, none⟩ = some (.string S) ∧ W.cell? ⟨bp, 1, none⟩ = some (.int .i64 q1) ∧ W.cell? ⟨bp, 2, none⟩ = some (.int .i64 q2) ∧ W.cell? ⟨bp, 3, none⟩ = some (.int .i64 q3))] (by kernel_rfl) ?_
      have hA0 : ∀ q ∈ ([(16, fun W : World => W.cell? ⟨b2, 0, none⟩ = some (.pointer (some ⟨B, 0, none⟩)) ∧ W.cell? ⟨b6, 0, none⟩ = some (.pointer (some ⟨Tb, 0, none⟩)) ∧ W.cell? ⟨b7, 0, none⟩ = some (.slice ap nL cp) ∧ W.cell? ⟨Tb, 1, none⟩ = some (.int .i64 mk) ∧ W.cell? ⟨bp, 0, none⟩ = some (.string S) ∧ W.cell? ⟨bp, 1, none⟩ = some (.int .i64 q1) ∧ W.cell? ⟨bp, 2, none⟩ = some (.int .i64 q2) ∧ W.cell? ⟨bp, 3, none⟩ = some (.int .i64 q3))] : List (Nat × (World → Prop))), q.2 Wp.drew := by
       intro q hq
       obtain rfl := mSg.1 hq
       exact HS16.out _ hbd
      refine UpV.tk 0 16 (v := .pointer (some ⟨B, 0, none⟩)) rfl (mCs ..) (Or.inl ⟨by rfl, ?_⟩) (owe_all hA0) ?_
      ·intro w hSw; obtain ⟨s0, s1, s2, s3, s4, s5, s6, s7⟩ := hSw; go_simp
      try simp only [Act.put, sqZ]
      refine UpV.tk 1 16 (v := .agg #[.string S, .int .i64 q1, .int .i64 q2, .int .i64 q3]) rfl (mCs ..) (Or.inl ⟨by rfl, ?_⟩) (owe_all hA0) ?_
      ·intro w hSw; obtain ⟨s0, s1, s2, s3, s4, s5, s6, s7⟩ := hSw; go_simp
      try simp only [Act.put, sqZ]
      refine UpV.tk 2 16 (v := .slice ap nL cp) rfl (mCs ..) (Or.inl ⟨by rfl, ?_⟩) (owe_all hA0) ?_
      ·intro w hSw; obtain ⟨s0, s1, s2, s3, s4, s5, s6, s7⟩ := hSw; go_simp
      try simp only [Act.put, sqZ]
      refine UpV.tp 3 (v := .int .i64 left) rfl (Or.inl ⟨by rfl, ?_⟩) (owe_all hA0) ?_
      ·intro w hSw; rfl
      try simp only [Act.put, sqZ]
      refine UpV.tp 4 (v := .int .i64 (max left 0)) rfl (Or.inl ⟨by rfl, ?_⟩) (owe_all hA0) ?_
      ·intro w hSw; (try simp only [sqG]); go_simp
      try simp only [Act.put, sqZ]
      refine UpV.tk 5 16 (v := .pointer (some ⟨Tb, 0, none⟩)) rfl (mCs ..) (Or.inl ⟨by rfl, ?_⟩) (owe_all hA0) ?_
      ·intro w hSw; obtain ⟨s0, s1, s2, s3, s4, s5, s6, s7⟩ := hSw; go_simp
      try simp only [Act.put, sqZ]
      refine UpV.tp 6 (v := .pointer (some ⟨Tb, 0, none⟩)) rfl (Or.inl ⟨by rfl, ?_⟩) (owe_all hA0) ?_
      ·intro w hSw; rfl
      try simp only [Act.put, sqZ]
      refine UpV.tp 7 (v := .pointer (some ⟨Tb, 1, none⟩)) rfl (Or.inl ⟨by rfl, ?_⟩) (owe_all hA0) ?_
      ·intro w hSw; rfl
      try simp only [Act.put, sqZ]
      refine UpV.tk 8 16 (v := .int .i64 mk) rfl (mCs ..) (Or.inl ⟨by rfl, ?_⟩) (owe_all hA0) ?_
      ·intro w hSw; obtain ⟨s0, s1, s2, s3, s4, s5, s6, s7⟩ := hSw; go_simp
      try simp only [Act.put, sqZ]
      have hsub : IntKind.i64.wrap (max left 0 - mk) = max left 0 - mk := IntWalk.i64_in _ (by omega)
      refine UpV.tp 9 (v := .int .i64 (max left 0 - mk)) rfl (Or.inl ⟨by rfl, ?_⟩) (owe_all hA0) ?_
      ·intro w hSw; (try simp only [sqG]); go_simp
      try simp only [Act.put, sqZ]
      refine UpV.two 10 15 (by kernel_rfl) rfl rfl ?_ ?_
      ·intro K hK
       try simp only [sqG]
       try go_simp
       go_at_call 47
       refine (HSO.out _ hbd).mono ?_
       intro e w7 hsp
       obtain ⟨sT, a, m, kc, hmc, hsT, rfl, how, h7⟩ := hsp.shape
       rw [← HT.out.1, ← HT.out.2.1, ← HT.out.2.2]
       have HSPX := hdL (And.intro hmc (And.intro hsT how)); have H7 := hdL h7; have HB7 := hdL (hbd.trans (h7.mono hbd.size))
       clear hsp hmc hsT how h7
       try go_simp
       refine hK.out _ _ (owe1 (fun _ => HS16.out _ HB7.out)) ?_
       clear hK K
       try simp only [Act.put, sqZ]
       refine UpV.tp 11 (v := .tuple #[.agg #[.string sT, .int .i64 ta, .int .i64 tb, .int .i64 tc, .slice a m kc], .int .i64 nD, .int .i64 e0]) rfl (Or.inl ⟨by rfl, ?_⟩) (owe1 (fun _ => HS16.out _ HB7.out)) ?_
       ·intro w hSw; rfl
       try simp only [Act.put, sqZ]
       refine UpV.tp 12 (v := .agg #[.string sT, .int .i64 ta, .int .i64 tb, .int .i64 tc, .slice a m kc]) rfl (Or.inl ⟨by rfl, ?_⟩) (owe1 (fun _ => HS16.out _ HB7.out)) ?_
       ·intro w hSw; rfl
       try simp only [Act.put, sqZ]
       refine UpV.tp 13 (v := .int .i64 nD) rfl (Or.inl ⟨by rfl, ?_⟩) (owe1 (fun _ => HS16.out _ HB7.out)) ?_
       ·intro w hSw; rfl
       try simp only [Act.put, sqZ]
       refine UpV.tp 14 (v := .int .i64 e0) rfl (Or.inl ⟨by rfl, ?_⟩) (owe1 (fun _ => HS16.out _ HB7.out)) ?_
       ·intro w hSw; rfl
       try simp only [Act.put, sqZ]
       obtain ⟨w8, hw8, hb8, hx8, z1, z2⟩ := aBk w7 #[.string ⟨#[]⟩, .int .i64 0, .int .i64 0, .int .i64 0, .slice none 0 0] 43
       refine UpV.one 15 (by kernel_rfl) rfl ?_
       intro K hK
       try simp only [sqG]
       try go_simp
       refine hK.out _ _ (owe1 (fun _ => HS16.out _ (HB7.out.trans (hb8.mono HB7.out.size)))) ?_
       clear hK K z1 z2
       try simp only [Act.put, sqZ]
       obtain ⟨V9, hV9, hx9, hc9⟩ := five_set hx8 (.string sT) (.int .i64 ta) (.int .i64 tb) (.int .i64 tc) (.slice a m kc)
       obtain ⟨z0, z1, z2, z3, z4⟩ := cells5 hx8
       have zf := foh hx8
       refine UpV.one 16 (by kernel_rfl) rfl ?_
       intro K hK
       try simp only [sqG]
       try go_simp
       try rw [hV9]
       refine hK.out _ _ (owe1 (fun h => (by cases h))) ?_
       clear hK K z0 z1 z2 z3 z4 zf
       try simp only [Act.put, sqZ]
       refine UpV.one 17 (by kernel_rfl) rfl ?_
       intro K hK
       try simp only [sqG]
       try go_simp
       refine hK.out _ _ (owe1 (fun h => (by cases h))) ?_
       clear hK K
       try simp only [Act.put, sqZ]
       refine UpV.one 18 (by kernel_rfl) rfl ?_
       intro K hK
       try simp only [sqG]
       try go_simp
       refine hK.out _ _ (owe1 (fun h => (by cases h))) ?_
       clear hK K
       try simp only [Act.put, sqZ]
       refine UpV.done (by kernel_rfl) ?_
       refine NoP.go ?_
       go_wp2_with fail
       go_meet
       obtain ⟨g1, g2, g3⟩ := HSPX.out
       have hl7 := HB7.out.size
       refine ⟨w7.heap.size, sT, a, m, kc, rfl, rfl, rfl, hdL g1, hdL g2, hdL hx9, hdL ?_, hdL ?_⟩
       ·exact ownsC_keep (ownsC_below g3 hb8) (fun g hg => hc9.block g (by have := (oCk g3 hg).2; obtain ⟨_, hcc⟩ := this; have := loh hcc; have := hb8.size; omega) (fun hm => by obtain ⟨_, _, hcc⟩ := oCk g3 hg; have h1 := loh hcc; rw [mSg.1 hm] at h1; omega))
       ·exact (HB7.out.trans (hb8.mono HB7.out.size)).trans (boC hc9 (fun k hk => by rw [mSg.1 hk]; exact hl7) (Nat.le_trans hl7 hb8.size))
      ·obtain ⟨w6, hw6, hb6, hx6, z1, z2⟩ := aBk Wp.drew #[.string ⟨#[]⟩, .int .i64 0, .int .i64 0, .int .i64 0, .slice none 0 0] 43
       have hB6 : Below Wp.heap.size Wp w6 := hbd.trans hb6
       have hx6' : w6.heap[Wp.heap.size]? = some (.cells #[.string ⟨#[]⟩, .int .i64 0, .int .i64 0, .int .i64 0, .slice none 0 0] 43 (0, 0)) := hx6
       intro K hK
       try simp only [sqG]
       try go_simp
       refine hK.out _ _ (owe1 (fun _ => HS16.out _ hB6)) ?_
       clear hK K z1 z2
       try simp only [Act.put, sqZ]
       refine UpV.one 10 (by kernel_rfl) rfl ?_
       intro K hK
       try simp only [sqG]
       try go_simp
       go_at_call 47
       refine (HSO.out _ hB6).mono ?_
       intro e w7 hsp
       obtain ⟨sT, a, m, kc, hmc, hsT, rfl, how, h7⟩ := hsp.shape
       rw [← HT.out.1, ← HT.out.2.1, ← HT.out.2.2]
       have HSPX := hdL (And.intro hmc (And.intro hsT how)); have H7 := hdL h7; have HB7 := hdL (hB6.trans (h7.mono hB6.size))
       clear hsp hmc hsT how h7
       try go_simp
       refine hK.out _ _ (owe1 (fun _ => HS16.out _ HB7.out)) ?_
       clear hK K
       try simp only [Act.put, sqZ]
       refine UpV.tp 11 (v := .tuple #[.agg #[.string sT, .int .i64 ta, .int .i64 tb, .int .i64 tc, .slice a m kc], .int .i64 nD, .int .i64 e0]) rfl (Or.inl ⟨by rfl, ?_⟩) (owe1 (fun _ => HS16.out _ HB7.out)) ?_
       ·intro w hSw; rfl
       try simp only [Act.put, sqZ]
       refine UpV.tp 12 (v := .agg #[.string sT, .int .i64 ta, .int .i64 tb, .int .i64 tc, .slice a m kc]) rfl (Or.inl ⟨by rfl, ?_⟩) (owe1 (fun _ => HS16.out _ HB7.out)) ?_
       ·intro w hSw; rfl
       try simp only [Act.put, sqZ]
       refine UpV.tp 13 (v := .int .i64 nD) rfl (Or.inl ⟨by rfl, ?_⟩) (owe1 (fun _ => HS16.out _ HB7.out)) ?_
       ·intro w hSw; rfl
       try simp only [Act.put, sqZ]
       refine UpV.tp 14 (v := .int .i64 e0) rfl (Or.inl ⟨by rfl, ?_⟩) (owe1 (fun _ => HS16.out _ HB7.out)) ?_
       ·intro w hSw; rfl
       try simp only [Act.put, sqZ]
       have hx7 := (H7.out.block _ (loh hx6')).trans hx6'
       obtain ⟨V9, hV9, hx9, hc9⟩ := five_set hx7 (.string sT) (.int .i64 ta) (.int .i64 tb) (.int .i64 tc) (.slice a m kc)
       obtain ⟨z0, z1, z2, z3, z4⟩ := cells5 hx7
       have zf := foh hx7
       refine UpV.one 16 (by kernel_rfl) rfl ?_
       intro K hK
       try simp only [sqG]
       try go_simp
       try rw [hV9]
       refine hK.out _ _ (owe1 (fun h => (by cases h))) ?_
       clear hK K z0 z1 z2 z3 z4 zf
       try simp only [Act.put, sqZ]
       refine UpV.one 17 (by kernel_rfl) rfl ?_
       intro K hK
       try simp only [sqG]
       try go_simp
       refine hK.out _ _ (owe1 (fun h => (by cases h))) ?_
       clear hK K
       try simp only [Act.put, sqZ]
       refine UpV.one 18 (by kernel_rfl) rfl ?_
       intro K hK
       try simp only [sqG]
       try go_simp
       refine hK.out _ _ (owe1 (fun h => (by cases h))) ?_
       clear hK K
       try simp only [Act.put, sqZ]
       refine UpV.done (by kernel_rfl) ?_
       refine NoP.go ?_
       go_wp2_with fail
       go_meet
       obtain ⟨g1, g2, g3⟩ := HSPX.out
       have hl7 := HB7.out.size
       have hl6 := loh hx6'
       refine ⟨Wp.heap.size, sT, a, m, kc, rfl, rfl, rfl, hdL g1, hdL g2, hdL hx9, hdL ?_, hdL ?_⟩
       ·refine ownsC_mono (ownsC_keep g3 (fun g hg => hc9.block g (by obtain ⟨_, _, hcc⟩ := oCk g3 hg; exact loh hcc) (fun hm => by have h1 := (oCk g3 hg).1; rw [mSg.1 hm] at h1; omega))) hB6.size
       ·exact HB7.out.trans (boC hc9 (fun k hk => by rw [mSg.1 hk]; exact Nat.le_refl _) hl7)
     case rest =>
      obtain ⟨wx, hwx⟩ : ∃ W, W = wc := ⟨_, rfl⟩
      subst hwx
      obtain ⟨bc, sT, a, m, kc, rfl, rfl, rfl, hm, hsT, hcb, how, hbx⟩ := hcut
      have hfx1 := HFP.out.below hbx.out
      have hrow : PRows w.heap.size wx ((.slice a m kc, ch) :: _) := HFP.out.rows.new (KT.below hbx.out) (ownsC_mono how.out HFP.out.bel.size) (fun g hg => (oCk how.out hg).1)
      have hfx2 := hfx1.rows' hrow
      have hxp2 := (hbx.out.block _ (loh HXP.out)).trans HXP.out
      have o6 := cOh hfx2.c6 0
      have t1 := cOh hfx2.cT 1
      have tf := foh hfx2.cT
      have hf17 := hfx2.setT 1 (.int .i64 (mk + nD)) (y0 := .slice aE nE cE) (y1 := .int .i64 (mk + nD)) (y2 := .slice (some ⟨bQ, oQ, none⟩) nl cl) rfl
      have hk17 : KP 96 wx _ := KP.set (i := 1) (v := .int .i64 (mk + nD)) hfx2.cT
      have hxp17 := hk17 _ _ _ _ (by decide) hxp2
      have hcb17 := hk17 _ _ _ _ (by decide) hcb.out
      obtain ⟨V17, hV17⟩ : ∃ W, wx.setCell ⟨Tb, 1, none⟩ (.int .i64 (mk + nD)) = W := ⟨_, rfl⟩
      rw [hV17] at hf17 hxp17 hcb17
      have hmn : mk + nD ≤ max left 0 := by omega
      have HF17 := hdL hf17; have HXP17 := hdL hxp17; have HCB17 := hdL hcb17
      clear hfx1 hrow hfx2 hxp2 hf17 hk17 hxp17 hcb17
      go_upto_region 18 with fail
      try rw [hV17]
      clear hV17 o6 t1 tf
      by_cases h0 : e0 = 0
      ·subst h0
       obtain ⟨hok, -, hn1, hn9⟩ := solve_holds HRES.out
       dsimp only at hn1
       obtain ⟨x, hx⟩ : ∃ x : EV, x = (⟨q, s, (t, ch)⟩, (a, kc)) := ⟨_, rfl⟩
       have hent : (entL x).toArray = #[.string S, .int .i64 q1, .int .i64 q2, .int .i64 q3, .int .i64 s, .string sT, .int .i64 ta, .int .i64 tb, .int .i64 tc, .slice a m kc] := by rw [hx]; unfold entL withV; dsimp only; rw [HSQ.out.1, ← HSQ.out.2.1, ← HSQ.out.2.2.1, ← HSQ.out.2.2.2, hsT.out, ← HT.out.1, ← HT.out.2.1, ← HT.out.2.2, ← hm.out]
       have hwr : ((.slice a m kc, ch) : Value × List Pk) = withR x := by rw [hx]; unfold withR withV; dsimp only; rw [hm.out]
       have hfr : Fx w V V17 b2 b6 b7 Tb B (.slice aE nE cE) (.int .i64 (mk + nD)) (.slice (some ⟨bQ, oQ, none⟩) nl cl) (.slice ap nL cp) (.slice aE nE cE) (es ++ es2) ((.slice am nm cm, (es2.map Prod.fst).map Ent.pkg) :: (.slice a2 n2 c2, l2) :: (.slice ap nL cp, (es.map Prod.fst).map Ent.pkg) :: (.slice (some ⟨bQ, oQ, none⟩) nl cl, less) :: ((es ++ es2).map withR ++ [withR x])) := by
        have h1 := HF17.out.rows
        rw [hwr] at h1
        exact HF17.out.rows' (h1.perm (List.perm_append_comm (l₁ := [withR x])))
       obtain ⟨iE, hiE, hzE0, hzE1, hzE2⟩ := info_parts infoEnt
       obtain ⟨iP, hiP, hzP0, hzP1, hzP2⟩ := info_parts infoPkg
       have hel : (es ++ es2).length = nE := by rw [lAp, ← hnL.out, ← hnm.out]; omega
       have hml : ((es2.map Prod.fst).map Ent.pkg).length = nm := by rw [List.length_map, List.length_map, ← hnm.out]
       have HENT := hdL hent; have HX := hdL hx; have HFR := hdL hfr; have HWR := hdL hwr; have HEL := hdL hel; have HML := hdL hml
       clear hent hx hfr hwr hok hel hml
       go_upto_region 21 with fail
       have hfd := HFR.out.below (show Below V17.heap.size V17 V17.drew from (Below.refl _ _).drew)
       have hpd : V17.drew.heap[bp]? = _ := HXP17.out
       have hcd : V17.drew.heap[bc]? = _ := HCB17.out
       refine wp_noP ?_
       refine UpV.start [(17, fun W : World => W.cell? ⟨b6, 0, none⟩ = some (.pointer (some ⟨Tb, 0, none⟩)) ∧ W.cell? ⟨Tb, 0, none⟩ = some (.slice aE nE cE) ∧ W.cell? ⟨bp, 0, none⟩ = some (.string S) ∧ W.cell? ⟨bp, 1, none⟩ = some (.int .i64 q1) ∧ W.cell? ⟨bp, 2, none⟩ = some (.int .i64 q2) ∧ W.cell? ⟨bp, 3, none⟩ = some (.int .i64 q3) ∧ W.cell? ⟨bc, 0, none⟩ = some (.string sT) ∧ W.cell? ⟨bc, 1, none⟩ = some (.int .i64 ta) ∧ W.cell? ⟨bc, 2, none⟩ = some (.int .i64 tb) ∧ W.cell? ⟨bc, 3, none⟩ = some (.int .i64 tc) ∧ W.cell? ⟨bc, 4, none⟩ = some (.slice a m kc)), (13, fun W : World => W.cell? ⟨bp, 0, none⟩ = some (.string S) ∧ W.cell? ⟨bp, 1, none⟩ = some (.int .i64 q1) ∧ W.cell? ⟨bp, 2, none⟩ = some (.int .i64 q2) ∧ W.cell? ⟨bp, 3, none⟩ = some (.int .i64 q3))] (by kernel_rfl) ?_
       have hA0 : ∀ q ∈ ([(17, fun W : World => W.cell? ⟨b6, 0, none⟩ = some (.pointer (some ⟨Tb, 0, none⟩)) ∧ W.cell? ⟨Tb, 0, none⟩ = some (.slice aE nE cE) ∧ W.cell? ⟨bp, 0, none⟩ = some (.string S) ∧ W.cell? ⟨bp, 1, none⟩ = some (.int .i64 q1) ∧ W.cell? ⟨bp, 2, none⟩ = some (.int .i64 q2) ∧ W.cell? ⟨bp, 3, none⟩ = some (.int .i64 q3) ∧ W.cell? ⟨bc, 0, none⟩ = some (.string sT) ∧ W.cell? ⟨bc, 1, none⟩ = some (.int .i64 ta) ∧ W.cell? ⟨bc, 2, none⟩ = some (.int .i64 tb) ∧ W.cell? ⟨bc, 3, none⟩ = some (.int .i64 tc) ∧ W.cell? ⟨bc, 4, none⟩ = some (.slice a m kc)), (13, fun W : World => W.cell? ⟨bp, 0, none⟩ = some (.string S) ∧ W.cell? ⟨bp, 1, none⟩ = some (.int .i64 q1) ∧ W.cell? ⟨bp, 2, none⟩ = some (.int .i64 q2) ∧ W.cell? ⟨bp, 3, none⟩ = some (.int .i64 q3))] : List (Nat × (World → Prop))), q.2 V17.drew := by
        intro q hq
        rcases List.mem_cons.1 hq with rfl | hq
        ·exact ⟨cOh hfd.c6 0, cOh hfd.cT 0, cOh hpd 0, cOh hpd 1, cOh hpd 2, cOh hpd 3, cOh hcd 0, cOh hcd 1, cOh hcd 2, cOh hcd 3, cOh hcd 4⟩
        obtain rfl := mSg.1 hq
        exact ⟨cOh hpd 0, cOh hpd 1, cOh hpd 2, cOh hpd 3⟩
       refine UpV.tk 0 17 (v := .pointer (some ⟨Tb, 0, none⟩)) rfl (mCs ..) (Or.inl ⟨by rfl, ?_⟩) (owe_all hA0) ?_
       ·intro w hSw; obtain ⟨s0, s1, s2, s3, s4, s5, s6, s7, s8, s9, s10⟩ := hSw; go_simp
       try simp only [Act.put, sqZ]
       refine UpV.tk 1 17 (v := .pointer (some ⟨Tb, 0, none⟩)) rfl (mCs ..) (Or.inl ⟨by rfl, ?_⟩) (owe_all hA0) ?_
       ·intro w hSw; obtain ⟨s0, s1, s2, s3, s4, s5, s6, s7, s8, s9, s10⟩ := hSw; go_simp
       try simp only [Act.put, sqZ]
       refine UpV.tp 2 (v := .pointer (some ⟨Tb, 0, none⟩)) rfl (Or.inl ⟨by rfl, ?_⟩) (owe_all hA0) ?_
       ·intro w hSw; rfl
       try simp only [Act.put, sqZ]
       refine UpV.tp 3 (v := .pointer (some ⟨Tb, 0, none⟩)) rfl (Or.inl ⟨by rfl, ?_⟩) (owe_all hA0) ?_
       ·intro w hSw; rfl
       try simp only [Act.put, sqZ]
       refine UpV.tk 4 17 (v := .slice aE nE cE) rfl (mCs ..) (Or.inl ⟨by rfl, ?_⟩) (owe_all hA0) ?_
       ·intro w hSw; obtain ⟨s0, s1, s2, s3, s4, s5, s6, s7, s8, s9, s10⟩ := hSw; go_simp
       try simp only [Act.put, sqZ]
       refine UpV.tk 5 17 (v := .agg #[.string S, .int .i64 q1, .int .i64 q2, .int .i64 q3]) rfl (mCs ..) (Or.inl ⟨by rfl, ?_⟩) (owe_all hA0) ?_
       ·intro w hSw; obtain ⟨s0, s1, s2, s3, s4, s5, s6, s7, s8, s9, s10⟩ := hSw; go_simp
       try simp only [Act.put, sqZ]
       refine UpV.tp 6 (v := .int .i64 s) rfl (Or.inl ⟨by rfl, ?_⟩) (owe_all hA0) ?_
       ·intro w hSw; rfl
       try simp only [Act.put, sqZ]
       refine UpV.tk 7 17 (v := .agg #[.string sT, .int .i64 ta, .int .i64 tb, .int .i64 tc, .slice a m kc]) rfl (mCs ..) (Or.inl ⟨by rfl, ?_⟩) (owe_all hA0) ?_
       ·intro w hSw; obtain ⟨s0, s1, s2, s3, s4, s5, s6, s7, s8, s9, s10⟩ := hSw; go_simp
       try simp only [Act.put, sqZ]
       refine UpV.tp 8 (v := .agg #[.string S, .int .i64 q1, .int .i64 q2, .int .i64 q3, .int .i64 s, .string sT, .int .i64 ta, .int .i64 tb, .int .i64 tc, .slice a m kc]) rfl (Or.inl ⟨by rfl, ?_⟩) (owe_all hA0) ?_
       ·intro w hSw; (try simp only [sqG]); go_simp
       try simp only [Act.put, sqZ]
       refine UpV.tp 11 (v := .slice am nm cm) rfl (Or.inl ⟨by rfl, ?_⟩) (owe_all hA0) ?_
       ·intro w hSw; rfl
       try simp only [Act.put, sqZ]
       refine UpV.tk 12 13 (v := .agg #[.string S, .int .i64 q1, .int .i64 q2, .int .i64 q3]) rfl (mCm _ (mCs ..)) (Or.inl ⟨by rfl, ?_⟩) (owe_all hA0) ?_
       ·intro w hSw; obtain ⟨s0, s1, s2, s3⟩ := hSw; go_simp
       try simp only [Act.put, sqZ]
       refine UpV.two 9 13 (by kernel_rfl) rfl rfl ?_ ?_
       ·obtain ⟨Wa101, hw101, hb101, hx101, -, -⟩ := aBk V17.drew #[.string S, .int .i64 q1, .int .i64 q2, .int .i64 q3, .int .i64 s, .string sT, .int .i64 ta, .int .i64 tb, .int .i64 tc, .slice a m kc] 45
        obtain ⟨bt101, hbe101⟩ : ∃ b, V17.heap.size = b := ⟨_, rfl⟩
        have hf101 := hfd.below hb101
        have hp101 := (hb101.block _ (loh hpd)).trans hpd
        have hc101 := (hb101.block _ (loh hcd)).trans hcd
        intro K hK
        try simp only [sqG]
        try go_simp
        try rw [hw101]
        try rw [hbe101]
        refine hK.out _ _ (owe2 (fun _ => ⟨cOh hf101.c6 0, cOh hf101.cT 0, cOh hp101 0, cOh hp101 1, cOh hp101 2, cOh hp101 3, cOh hc101 0, cOh hc101 1, cOh hc101 2, cOh hc101 3, cOh hc101 4⟩) (fun _ => ⟨cOh hp101 0, cOh hp101 1, cOh hp101 2, cOh hp101 3⟩)) ?_
        clear hK K
        try simp only [Act.put, sqZ]
        change Wa101.heap[V17.heap.size]? = _ at hx101; rw [hbe101] at hx101
        refine UpV.two 10 13 (by kernel_rfl) rfl rfl ?_ ?_
        ·have how102 := hf101.list
         rw [HEL.out] at how102
         have hxq102 := hx101
         rw [← HENT.out] at hxq102
         intro K hK
         refine step_append_c rfl (.tmp 97) (.tmp 102) 68 68 rfl w.heap.size 45 iE _ 10 112 Tryz.underlying68 hiE hzE0 hzE1 hzE2 rfl (.slice aE nE cE) (by first | rfl | (simp [Act.eval]; done) | (simp [Act.eval, Act.put]; done)) nE _ how102 (.slice (some ⟨bt101, 0, none⟩) 1 1) (by first | rfl | (simp [Act.eval]; done) | (simp [Act.eval, Act.put]; done)) 1 _ (src_ent hxq102) (by unfold maxLen; omega) (by omega) hf101.bel.size ?_
         intro aL102 cL102 Wa102 hoa102 hga102 _
         have hf102 := hf101.listPush HEL.out hga102 hoa102
         have hka102 : KP 45 Wa101 Wa102 := KP.grown hga102 how102
         have hp102 := hka102 _ _ _ _ (by decide) hp101
         have hc102 := hka102 _ _ _ _ (by decide) hc101
         refine hK.out _ _ (owe2 (fun _ => ⟨cOh hf102.c6 0, cOh hf102.cT 0, cOh hp102 0, cOh hp102 1, cOh hp102 2, cOh hp102 3, cOh hc102 0, cOh hc102 1, cOh hc102 2, cOh hc102 3, cOh hc102 4⟩) (fun _ => ⟨cOh hp102 0, cOh hp102 1, cOh hp102 2, cOh hp102 3⟩)) ?_
         clear hK K
         try simp only [Act.put, sqZ]
         refine UpV.one 13 (by kernel_rfl) rfl ?_
         obtain ⟨Wa103, hw103, hb103, hx103, -, -⟩ := aBk Wa102 #[.string S, .int .i64 q1, .int .i64 q2, .int .i64 q3] 41
         obtain ⟨bt103, hbe103⟩ : ∃ b, Wa102.heap.size = b := ⟨_, rfl⟩
         have hf103 := hf102.below hb103
         have hp103 := (hb103.block _ (loh hp102)).trans hp102
         have hc103 := (hb103.block _ (loh hc102)).trans hc102
         intro K hK
         try simp only [sqG]
         try go_simp
         try rw [hw103]
         try rw [hbe103]
         refine hK.out _ _ (owe2 (fun _ => ⟨cOh hf103.c6 0, cOh hf103.cT 0, cOh hp103 0, cOh hp103 1, cOh hp103 2, cOh hp103 3, cOh hc103 0, cOh hc103 1, cOh hc103 2, cOh hc103 3, cOh hc103 4⟩) (fun h => (by cases h))) ?_
         clear hK K
         try simp only [Act.put, sqZ]
         rw [hbe103] at hx103
         refine UpV.one 14 (by kernel_rfl) rfl ?_
         have hop104 : ownsC Wa103 w.heap.size 41 4 (.slice am nm cm) nm (((es2.map Prod.fst).map Ent.pkg).flatMap pkL) := by have := hf103.rows.own _ (mCs ..); unfold PRow at this; dsimp only at this; rw [HML.out] at this; exact this
         have hxq104 := hx103
         rw [← HPK.out] at hxq104
         intro K hK
         refine step_append_c rfl (.tmp 104) (.tmp 106) 22 22 rfl w.heap.size 41 iP _ 4 40 Tryz.underlying22 hiP hzP0 hzP1 hzP2 rfl (.slice am nm cm) (by first | rfl | (simp [Act.eval]; done) | (simp [Act.eval, Act.put]; done)) nm _ hop104 (.slice (some ⟨bt103, 0, none⟩) 1 1) (by first | rfl | (simp [Act.eval]; done) | (simp [Act.eval, Act.put]; done)) 1 _ (src_pkb hxq104) (by unfold maxLen; omega) (by omega) hf103.bel.size ?_
         intro ap104 cp104 Wa104 hob104 hgb104 hnb104
         have hf104 := hf103.rowPush HML.out hgb104 hob104 hnb104
         have hp104 := (hgb104.block _ (loh hp103) (fun e => by have := HRL.out bp e.symm; omega)).trans hp103
         have hkb104 : KP 41 Wa103 Wa104 := KP.grown hgb104 hop104
         have hc104 := hkb104 _ _ _ _ (by decide) hc103
         refine hK.out _ _ (owe2 (fun _ => ⟨cOh hf104.c6 0, cOh hf104.cT 0, cOh hp104 0, cOh hp104 1, cOh hp104 2, cOh hp104 3, cOh hc104 0, cOh hc104 1, cOh hc104 2, cOh hc104 3, cOh hc104 4⟩) (fun h => (by cases h))) ?_
         clear hK K
         try simp only [Act.put, sqZ]
         have e6 := cOh hf104.c6 0
         have eT := cOh hf104.cT 0
         have eTf := foh hf104.cT
         have hS1c : (fun W : World => W.cell? ⟨b6, 0, none⟩ = some (.pointer (some ⟨Tb, 0, none⟩)) ∧ W.cell? ⟨Tb, 0, none⟩ = some (.slice aE nE cE) ∧ W.cell? ⟨bp, 0, none⟩ = some (.string S) ∧ W.cell? ⟨bp, 1, none⟩ = some (.int .i64 q1) ∧ W.cell? ⟨bp, 2, none⟩ = some (.int .i64 q2) ∧ W.cell? ⟨bp, 3, none⟩ = some (.int .i64 q3) ∧ W.cell? ⟨bc, 0, none⟩ = some (.string sT) ∧ W.cell? ⟨bc, 1, none⟩ = some (.int .i64 ta) ∧ W.cell? ⟨bc, 2, none⟩ = some (.int .i64 tb) ∧ W.cell? ⟨bc, 3, none⟩ = some (.int .i64 tc) ∧ W.cell? ⟨bc, 4, none⟩ = some (.slice a m kc)) Wa104 := ⟨e6, eT, cOh hp104 0, cOh hp104 1, cOh hp104 2, cOh hp104 3, cOh hc104 0, cOh hc104 1, cOh hc104 2, cOh hc104 3, cOh hc104 4⟩
         refine UpV.tp 15 (v := .pointer (some ⟨Tb, 0, none⟩)) rfl (Or.inl ⟨by rfl, ?_⟩) (owe2 (fun _ => hS1c) (fun h => (by cases h))) ?_
         ·intro w hSw; rfl
         try simp only [Act.put, sqZ]
         refine UpV.tp 16 (v := .pointer (some ⟨Tb, 0, none⟩)) rfl (Or.inl ⟨by rfl, ?_⟩) (owe2 (fun _ => hS1c) (fun h => (by cases h))) ?_
         ·intro w hSw; rfl
         try simp only [Act.put, sqZ]
         refine UpV.one 17 (by kernel_rfl) rfl ?_
         intro K hK
         try simp only [sqG]
         try go_simp
         refine hK.out _ _ (owe2 (fun h => (by cases h)) (fun h => (by cases h))) ?_
         clear hK K
         try simp only [Act.put, sqZ]
         have hfE := hf104.setT 0 (.slice aL102 (nE + 1) cL102) (y0 := .slice aL102 (nE + 1) cL102) (y1 := .int .i64 (mk + nD)) (y2 := .slice (some ⟨bQ, oQ, none⟩) nl cl) rfl
         refine UpV.one 18 (by kernel_rfl) rfl ?_
         intro K hK
         try simp only [sqG]
         try go_simp
         refine hK.out _ _ (owe2 (fun h => (by cases h)) (fun h => (by cases h))) ?_
         clear hK K
         try simp only [Act.put, sqZ]
         refine UpV.done (by kernel_rfl) ?_
         refine NoP.go ?_
         have HFE := hdL hfE
         clear hfE e6 eT eTf hS1c
         go_wp2_with fail
         go_roundw
         case rel =>
          refine ⟨k + 1, mk + nD, es2 ++ [x], l2, aL102, nE + 1, cL102, ap104, nm + 1, cp104, a2, n2, c2, rfl, rfl, by go_num, by omega, by omega, by omega, by omega, by omega, hdL ?_, hn2, hdL ?_, hdL ?_, hdL ?_⟩
          ·rw [lAp, lSg, ← hnm.out]
          ·have h1 := round_ok hrd.out HQ.out HRES.out
           rw [List.map_append, HX.out]
           exact h1
          ·intro y hy
           rw [← List.append_assoc] at hy
           rcases List.mem_append.1 hy with hy | hy
           ·exact hcl2.out y hy
           ·rw [mSg.1 hy, HX.out]
            dsimp only
            omega
          ·have h1 := HFE.out
           rw [← List.append_assoc, List.map_append (l₂ := [x]), List.map_append (f := Ent.pkg), List.map_append (f := withR)]
           have h2 : ([x].map Prod.fst).map Ent.pkg = [q] := by rw [HX.out]; rfl
           rw [h2]
           exact h1
         case measure => simp [intOf]; omega
        ·obtain ⟨Wa105, hw105, hb105, hx105, -, -⟩ := aBk Wa101 #[.string S, .int .i64 q1, .int .i64 q2, .int .i64 q3] 41
         obtain ⟨bt105, hbe105⟩ : ∃ b, Wa101.heap.size = b := ⟨_, rfl⟩
         have hf105 := hf101.below hb105
         have hp105 := (hb105.block _ (loh hp101)).trans hp101
         have hc105 := (hb105.block _ (loh hc101)).trans hc101
         intro K hK
         try simp only [sqG]
         try go_simp
         try rw [hw105]
         try rw [hbe105]
         refine hK.out _ _ (owe2 (fun _ => ⟨cOh hf105.c6 0, cOh hf105.cT 0, cOh hp105 0, cOh hp105 1, cOh hp105 2, cOh hp105 3, cOh hc105 0, cOh hc105 1, cOh hc105 2, cOh hc105 3, cOh hc105 4⟩) (fun h => (by cases h))) ?_
         clear hK K
         try simp only [Act.put, sqZ]
         rw [hbe105] at hx105
         have hxe105 := (hb105.block _ (loh hx101)).trans hx101
         refine UpV.one 10 (by kernel_rfl) rfl ?_
         have how106 := hf105.list
         rw [HEL.out] at how106
         have hxq106 := hxe105
         rw [← HENT.out] at hxq106
         intro K hK
         refine step_append_c rfl (.tmp 97) (.tmp 102) 68 68 rfl w.heap.size 45 iE _ 10 112 Tryz.underlying68 hiE hzE0 hzE1 hzE2 rfl (.slice aE nE cE) (by first | rfl | (simp [Act.eval]; done) | (simp [Act.eval, Act.put]; done)) nE _ how106 (.slice (some ⟨bt101, 0, none⟩) 1 1) (by first | rfl | (simp [Act.eval]; done) | (simp [Act.eval, Act.put]; done)) 1 _ (src_ent hxq106) (by unfold maxLen; omega) (by omega) hf105.bel.size ?_
         intro aL106 cL106 Wa106 hoa106 hga106 _
         have hf106 := hf105.listPush HEL.out hga106 hoa106
         have hka106 : KP 45 Wa105 Wa106 := KP.grown hga106 how106
         have hp106 := hka106 _ _ _ _ (by decide) hp105
         have hc106 := hka106 _ _ _ _ (by decide) hc105
         have hxp106 := hka106 _ _ _ _ (by decide) hx105
         refine hK.out _ _ (owe2 (fun _ => ⟨cOh hf106.c6 0, cOh hf106.cT 0, cOh hp106 0, cOh hp106 1, cOh hp106 2, cOh hp106 3, cOh hc106 0, cOh hc106 1, cOh hc106 2, cOh hc106 3, cOh hc106 4⟩) (fun h => (by cases h))) ?_
         clear hK K
         try simp only [Act.put, sqZ]
         refine UpV.one 14 (by kernel_rfl) rfl ?_
         have hop107 : ownsC Wa106 w.heap.size 41 4 (.slice am nm cm) nm (((es2.map Prod.fst).map Ent.pkg).flatMap pkL) := by have := hf106.rows.own _ (mCs ..); unfold PRow at this; dsimp only at this; rw [HML.out] at this; exact this
         have hxq107 := hxp106
         rw [← HPK.out] at hxq107
         intro K hK
         refine step_append_c rfl (.tmp 104) (.tmp 106) 22 22 rfl w.heap.size 41 iP _ 4 40 Tryz.underlying22 hiP hzP0 hzP1 hzP2 rfl (.slice am nm cm) (by first | rfl | (simp [Act.eval]; done) | (simp [Act.eval, Act.put]; done)) nm _ hop107 (.slice (some ⟨bt105, 0, none⟩) 1 1) (by first | rfl | (simp [Act.eval]; done) | (simp [Act.eval, Act.put]; done)) 1 _ (src_pkb hxq107) (by unfold maxLen; omega) (by omega) hf106.bel.size ?_
         intro ap107 cp107 Wa107 hob107 hgb107 hnb107
         have hf107 := hf106.rowPush HML.out hgb107 hob107 hnb107
         have hp107 := (hgb107.block _ (loh hp106) (fun e => by have := HRL.out bp e.symm; omega)).trans hp106
         have hkb107 : KP 41 Wa106 Wa107 := KP.grown hgb107 hop107
         have hc107 := hkb107 _ _ _ _ (by decide) hc106
         refine hK.out _ _ (owe2 (fun _ => ⟨cOh hf107.c6 0, cOh hf107.cT 0, cOh hp107 0, cOh hp107 1, cOh hp107 2, cOh hp107 3, cOh hc107 0, cOh hc107 1, cOh hc107 2, cOh hc107 3, cOh hc107 4⟩) (fun h => (by cases h))) ?_
         clear hK K
         try simp only [Act.put, sqZ]
         have e6 := cOh hf107.c6 0
         have eT := cOh hf107.cT 0
         have eTf := foh hf107.cT
         have hS1c : (fun W : World => W.cell? ⟨b6, 0, none⟩ = some (.pointer (some ⟨Tb, 0, none⟩)) ∧ W.cell? ⟨Tb, 0, none⟩ = some (.slice aE nE cE) ∧ W.cell? ⟨bp, 0, none⟩ = some (.string S) ∧ W.cell? ⟨bp, 1, none⟩ = some (.int .i64 q1) ∧ W.cell? ⟨bp, 2, none⟩ = some (.int .i64 q2) ∧ W.cell? ⟨bp, 3, none⟩ = some (.int .i64 q3) ∧ W.cell? ⟨bc, 0, none⟩ = some (.string sT) ∧ W.cell? ⟨bc, 1, none⟩ = some (.int .i64 ta) ∧ W.cell? ⟨bc, 2, none⟩ = some (.int .i64 tb) ∧ W.cell? ⟨bc, 3, none⟩ = some (.int .i64 tc) ∧ W.cell? ⟨bc, 4, none⟩ = some (.slice a m kc)) Wa107 := ⟨e6, eT, cOh hp107 0, cOh hp107 1, cOh hp107 2, cOh hp107 3, cOh hc107 0, cOh hc107 1, cOh hc107 2, cOh hc107 3, cOh hc107 4⟩
         refine UpV.tp 15 (v := .pointer (some ⟨Tb, 0, none⟩)) rfl (Or.inl ⟨by rfl, ?_⟩) (owe2 (fun _ => hS1c) (fun h => (by cases h))) ?_
         ·intro w hSw; rfl
         try simp only [Act.put, sqZ]
         refine UpV.tp 16 (v := .pointer (some ⟨Tb, 0, none⟩)) rfl (Or.inl ⟨by rfl, ?_⟩) (owe2 (fun _ => hS1c) (fun h => (by cases h))) ?_
         ·intro w hSw; rfl
         try simp only [Act.put, sqZ]
         refine UpV.one 17 (by kernel_rfl) rfl ?_
         intro K hK
         try simp only [sqG]
         try go_simp
         refine hK.out _ _ (owe2 (fun h => (by cases h)) (fun h => (by cases h))) ?_
         clear hK K
         try simp only [Act.put, sqZ]
         have hfE := hf107.setT 0 (.slice aL106 (nE + 1) cL106) (y0 := .slice aL106 (nE + 1) cL106) (y1 := .int .i64 (mk + nD)) (y2 := .slice (some ⟨bQ, oQ, none⟩) nl cl) rfl
         refine UpV.one 18 (by kernel_rfl) rfl ?_
         intro K hK
         try simp only [sqG]
         try go_simp
         refine hK.out _ _ (owe2 (fun h => (by cases h)) (fun h => (by cases h))) ?_
         clear hK K
         try simp only [Act.put, sqZ]
         refine UpV.done (by kernel_rfl) ?_
         refine NoP.go ?_
         have HFE := hdL hfE
         clear hfE e6 eT eTf hS1c
         go_wp2_with fail
         go_roundw
         case rel =>
          refine ⟨k + 1, mk + nD, es2 ++ [x], l2, aL106, nE + 1, cL106, ap107, nm + 1, cp107, a2, n2, c2, rfl, rfl, by go_num, by omega, by omega, by omega, by omega, by omega, hdL ?_, hn2, hdL ?_, hdL ?_, hdL ?_⟩
          ·rw [lAp, lSg, ← hnm.out]
          ·have h1 := round_ok hrd.out HQ.out HRES.out
           rw [List.map_append, HX.out]
           exact h1
          ·intro y hy
           rw [← List.append_assoc] at hy
           rcases List.mem_append.1 hy with hy | hy
           ·exact hcl2.out y hy
           ·rw [mSg.1 hy, HX.out]
            dsimp only
            omega
          ·have h1 := HFE.out
           rw [← List.append_assoc, List.map_append (l₂ := [x]), List.map_append (f := Ent.pkg), List.map_append (f := withR)]
           have h2 : ([x].map Prod.fst).map Ent.pkg = [q] := by rw [HX.out]; rfl
           rw [h2]
           exact h1
         case measure => simp [intOf]; omega
       ·obtain ⟨Wa108, hw108, hb108, hx108, -, -⟩ := aBk V17.drew #[.string S, .int .i64 q1, .int .i64 q2, .int .i64 q3] 41
        obtain ⟨bt108, hbe108⟩ : ∃ b, V17.heap.size = b := ⟨_, rfl⟩
        have hf108 := hfd.below hb108
        have hp108 := (hb108.block _ (loh hpd)).trans hpd
        have hc108 := (hb108.block _ (loh hcd)).trans hcd
        intro K hK
        try simp only [sqG]
        try go_simp
        try rw [hw108]
        try rw [hbe108]
        refine hK.out _ _ (owe2 (fun _ => ⟨cOh hf108.c6 0, cOh hf108.cT 0, cOh hp108 0, cOh hp108 1, cOh hp108 2, cOh hp108 3, cOh hc108 0, cOh hc108 1, cOh hc108 2, cOh hc108 3, cOh hc108 4⟩) (fun h => (by cases h))) ?_
        clear hK K
        try simp only [Act.put, sqZ]
        change Wa108.heap[V17.heap.size]? = _ at hx108; rw [hbe108] at hx108
        refine UpV.one 9 (by kernel_rfl) rfl ?_
        obtain ⟨Wa109, hw109, hb109, hx109, -, -⟩ := aBk Wa108 #[.string S, .int .i64 q1, .int .i64 q2, .int .i64 q3, .int .i64 s, .string sT, .int .i64 ta, .int .i64 tb, .int .i64 tc, .slice a m kc] 45
        obtain ⟨bt109, hbe109⟩ : ∃ b, Wa108.heap.size = b := ⟨_, rfl⟩
        have hf109 := hf108.below hb109
        have hp109 := (hb109.block _ (loh hp108)).trans hp108
        have hc109 := (hb109.block _ (loh hc108)).trans hc108
        intro K hK
        try simp only [sqG]
        try go_simp
        try rw [hw109]
        try rw [hbe109]
        refine hK.out _ _ (owe2 (fun _ => ⟨cOh hf109.c6 0, cOh hf109.cT 0, cOh hp109 0, cOh hp109 1, cOh hp109 2, cOh hp109 3, cOh hc109 0, cOh hc109 1, cOh hc109 2, cOh hc109 3, cOh hc109 4⟩) (fun h => (by cases h))) ?_
        clear hK K
        try simp only [Act.put, sqZ]
        rw [hbe109] at hx109
        have hxp109 := (hb109.block _ (loh hx108)).trans hx108
        refine UpV.one 10 (by kernel_rfl) rfl ?_
        have how110 := hf109.list
        rw [HEL.out] at how110
        have hxq110 := hx109
        rw [← HENT.out] at hxq110
        intro K hK
        refine step_append_c rfl (.tmp 97) (.tmp 102) 68 68 rfl w.heap.size 45 iE _ 10 112 Tryz.underlying68 hiE hzE0 hzE1 hzE2 rfl (.slice aE nE cE) (by first | rfl | (simp [Act.eval]; done) | (simp [Act.eval, Act.put]; done)) nE _ how110 (.slice (some ⟨bt109, 0, none⟩) 1 1) (by first | rfl | (simp [Act.eval]; done) | (simp [Act.eval, Act.put]; done)) 1 _ (src_ent hxq110) (by unfold maxLen; omega) (by omega) hf109.bel.size ?_
        intro aL110 cL110 Wa110 hoa110 hga110 _
        have hf110 := hf109.listPush HEL.out hga110 hoa110
        have hka110 : KP 45 Wa109 Wa110 := KP.grown hga110 how110
        have hp110 := hka110 _ _ _ _ (by decide) hp109
        have hc110 := hka110 _ _ _ _ (by decide) hc109
        have hxp110 := hka110 _ _ _ _ (by decide) hxp109
        refine hK.out _ _ (owe2 (fun _ => ⟨cOh hf110.c6 0, cOh hf110.cT 0, cOh hp110 0, cOh hp110 1, cOh hp110 2, cOh hp110 3, cOh hc110 0, cOh hc110 1, cOh hc110 2, cOh hc110 3, cOh hc110 4⟩) (fun h => (by cases h))) ?_
        clear hK K
        try simp only [Act.put, sqZ]
        refine UpV.one 14 (by kernel_rfl) rfl ?_
        have hop111 : ownsC Wa110 w.heap.size 41 4 (.slice am nm cm) nm (((es2.map Prod.fst).map Ent.pkg).flatMap pkL) := by have := hf110.rows.own _ (mCs ..); unfold PRow at this; dsimp only at this; rw [HML.out] at this; exact this
        have hxq111 := hxp110
        rw [← HPK.out] at hxq111
        intro K hK
        refine step_append_c rfl (.tmp 104) (.tmp 106) 22 22 rfl w.heap.size 41 iP _ 4 40 Tryz.underlying22 hiP hzP0 hzP1 hzP2 rfl (.slice am nm cm) (by first | rfl | (simp [Act.eval]; done) | (simp [Act.eval, Act.put]; done)) nm _ hop111 (.slice (some ⟨bt108, 0, none⟩) 1 1) (by first | rfl | (simp [Act.eval]; done) | (simp [Act.eval, Act.put]; done)) 1 _ (src_pkb hxq111) (by unfold maxLen; omega) (by omega) hf110.bel.size ?_
        intro ap111 cp111 Wa111 hob111 hgb111 hnb111
        have hf111 := hf110.rowPush HML.out hgb111 hob111 hnb111
        have hp111 := (hgb111.block _ (loh hp110) (fun e => by have := HRL.out bp e.symm; omega)).trans hp110
        have hkb111 : KP 41 Wa110 Wa111 := KP.grown hgb111 hop111
        have hc111 := hkb111 _ _ _ _ (by decide) hc110
        refine hK.out _ _ (owe2 (fun _ => ⟨cOh hf111.c6 0, cOh hf111.cT 0, cOh hp111 0, cOh hp111 1, cOh hp111 2, cOh hp111 3, cOh hc111 0, cOh hc111 1, cOh hc111 2, cOh hc111 3, cOh hc111 4⟩) (fun h => (by cases h))) ?_
        clear hK K
        try simp only [Act.put, sqZ]
        have e6 := cOh hf111.c6 0
        have eT := cOh hf111.cT 0
        have eTf := foh hf111.cT
        have hS1c : (fun W : World => W.cell? ⟨b6, 0, none⟩ = some (.pointer (some ⟨Tb, 0, none⟩)) ∧ W.cell? ⟨Tb, 0, none⟩ = some (.slice aE nE cE) ∧ W.cell? ⟨bp, 0, none⟩ = some (.string S) ∧ W.cell? ⟨bp, 1, none⟩ = some (.int .i64 q1) ∧ W.cell? ⟨bp, 2, none⟩ = some (.int .i64 q2) ∧ W.cell? ⟨bp, 3, none⟩ = some (.int .i64 q3) ∧ W.cell? ⟨bc, 0, none⟩ = some (.string sT) ∧ W.cell? ⟨bc, 1, none⟩ = some (.int .i64 ta) ∧ W.cell? ⟨bc, 2, none⟩ = some (.int .i64 tb) ∧ W.cell? ⟨bc, 3, none⟩ = some (.int .i64 tc) ∧ W.cell? ⟨bc, 4, none⟩ = some (.slice a m kc)) Wa111 := ⟨e6, eT, cOh hp111 0, cOh hp111 1, cOh hp111 2, cOh hp111 3, cOh hc111 0, cOh hc111 1, cOh hc111 2, cOh hc111 3, cOh hc111 4⟩
        refine UpV.tp 15 (v := .pointer (some ⟨Tb, 0, none⟩)) rfl (Or.inl ⟨by rfl, ?_⟩) (owe2 (fun _ => hS1c) (fun h => (by cases h))) ?_
        ·intro w hSw; rfl
        try simp only [Act.put, sqZ]
        refine UpV.tp 16 (v := .pointer (some ⟨Tb, 0, none⟩)) rfl (Or.inl ⟨by rfl, ?_⟩) (owe2 (fun _ => hS1c) (fun h => (by cases h))) ?_
        ·intro w hSw; rfl
        try simp only [Act.put, sqZ]
        refine UpV.one 17 (by kernel_rfl) rfl ?_
        intro K hK
        try simp only [sqG]
        try go_simp
        refine hK.out _ _ (owe2 (fun h => (by cases h)) (fun h => (by cases h))) ?_
        clear hK K
        try simp only [Act.put, sqZ]
        have hfE := hf111.setT 0 (.slice aL110 (nE + 1) cL110) (y0 := .slice aL110 (nE + 1) cL110) (y1 := .int .i64 (mk + nD)) (y2 := .slice (some ⟨bQ, oQ, none⟩) nl cl) rfl
        refine UpV.one 18 (by kernel_rfl) rfl ?_
        intro K hK
        try simp only [sqG]
        try go_simp
        refine hK.out _ _ (owe2 (fun h => (by cases h)) (fun h => (by cases h))) ?_
        clear hK K
        try simp only [Act.put, sqZ]
        refine UpV.done (by kernel_rfl) ?_
        refine NoP.go ?_
        have HFE := hdL hfE
        clear hfE e6 eT eTf hS1c
        go_wp2_with fail
        go_roundw
        case rel =>
         refine ⟨k + 1, mk + nD, es2 ++ [x], l2, aL110, nE + 1, cL110, ap111, nm + 1, cp111, a2, n2, c2, rfl, rfl, by go_num, by omega, by omega, by omega, by omega, by omega, hdL ?_, hn2, hdL ?_, hdL ?_, hdL ?_⟩
         ·rw [lAp, lSg, ← hnm.out]
         ·have h1 := round_ok hrd.out HQ.out HRES.out
          rw [List.map_append, HX.out]
          exact h1
         ·intro y hy
          rw [← List.append_assoc] at hy
          rcases List.mem_append.1 hy with hy | hy
          ·exact hcl2.out y hy
          ·rw [mSg.1 hy, HX.out]
           dsimp only
           omega
         ·have h1 := HFE.out
          rw [← List.append_assoc, List.map_append (l₂ := [x]), List.map_append (f := Ent.pkg), List.map_append (f := withR)]
          have h2 : ([x].map Prod.fst).map Ent.pkg = [q] := by rw [HX.out]; rfl
          rw [h2]
          exact h1
        case measure => simp [intOf]; omega
      ·by_cases h6 : e0 = 60
       ·subst h6
        have h0' : ((60 : Int) == 0) = false := rfl
        have hd17 := HF17.out.ox.block D _ HK.out (fun e => by cases e)
        have HD17 := hdL hd17
        clear hd17
        go_wp2_with fail
        refine marks_ret1 (v := .tuple #[.pointer none, .int .i64 60]) rfl HD17.out (by simp [results, Tryz.results16, go_sem]) ?_
        obtain ⟨f', rfl⟩ : ∃ f', f = f' + 1 := ⟨f - 1, by omega⟩
        refine fixP_none ?_ (HF17.out.bel.grown (grownBy_putObj' _ D _) HF17.out.bel.size (fun k e => by obtain rfl : D = k := sIj e; exact Nat.le_trans HZ5.out HVD.out))
        rw [← hfix.out]
        exact fix_out (round_out hrd.out HQ.out HRES.out)
       ·have hb0 : ((e0 : Int) == 0) = false := by simp; exact h0
        have hb6 : ((e0 : Int) == 60) = false := by simp; exact h6
        obtain ⟨V18, hV18, hb18, hx18, y1, y2⟩ := aBk V17 #[.string S, .int .i64 q1, .int .i64 q2, .int .i64 q3] 41
        obtain ⟨b18, hbe18⟩ : ∃ b, V17.heap.size = b := ⟨_, rfl⟩
        rw [hbe18] at hx18
        rw [← HPK.out] at hx18
        have hf18 := HF17.out.below hb18
        have hf19 := hf18.rows' ((hf18.rows.sub (List.sublist_cons_self ..)).perm (List.Perm.swap _ _ _))
        have hop : ownsC V18 w.heap.size 41 4 (.slice a2 n2 c2) n2 (l2.flatMap pkL) := by have := hf19.rows.own _ (mCs ..); unfold PRow at this; dsimp only at this; rw [← hn2.out] at this; exact this
        obtain ⟨iP, hiP, hzP0, hzP1, hzP2⟩ := info_parts infoPkg
        have HSRC := hdL (src_pkb hx18)
        obtain ⟨p0, p1, p2, p3⟩ := cells4 HXP17.out
        have HF19 := hdL hf19; have HOP := hdL hop; have HI := hdL (And.intro hiP (And.intro hzP0 (And.intro hzP1 hzP2)))
        clear hf18 hf19 hop hiP hzP0 hzP1 hzP2 hb18 hx18 y1 y2
        go_wp2_with (first | (at_builtin; refine wpList_append_c rfl (.tmp 87) (.tmp 89) 22 22 rfl w.heap.size 41 iP _ 4 40 Tryz.underlying22 HI.out.1 HI.out.2.1 HI.out.2.2.1 HI.out.2.2.2 rfl (.slice a2 n2 c2) rfl n2 _ HOP.out (.slice (some ⟨b18, 0, none⟩) 1 1) rfl 1 _ HSRC.out (by unfold maxLen; omega) (by omega) HF19.out.bel.size ?_; intro a3 c3 V19 ho3 hg3 hw3; have HO3 := hdL ho3; have HG3 := hdL hg3; have HW3 := hdL hw3; clear ho3 hg3 hw3) | fail)
        have hfE := HF19.out.rowPush hn2.out.symm HG3.out HO3.out HW3.out
        have hfE2 := hfE.rows' (hfE.rows.perm (List.Perm.swap _ _ _))
        have HFE := hdL hfE2
        clear hfE hfE2 p0 p1 p2 p3
        go_wp2_with fail
        go_roundw
        case rel =>
         refine ⟨k + 1, mk + nD, es2, l2 ++ [q], aE, nE, cE, am, nm, cm, a3, n2 + 1, c3, rfl, rfl, by go_num, by omega, by omega, by omega, by omega, by omega, hnm, hdL ?_, hdL ?_, hcl2, HFE⟩
         ·rw [lAp, lSg, ← hn2.out]
         ·exact round_no hrd.out HQ.out HRES.out h0 h6
        case measure => simp [intOf]; omega
    ·obtain rfl : k = nl := by omega
     have hround := round_end hrd.out (by rw [← hnl.out]; exact Nat.le_refl _)
     have hpl : ((es.map Prod.fst).map Ent.pkg).length = nL := by rw [List.length_map, List.length_map, ← hnL.out]
     have hml : ((es2.map Prod.fst).map Ent.pkg).length = nm := by rw [List.length_map, List.length_map, ← hnm.out]
     have hel : (es ++ es2).length = nE := by rw [lAp, ← hnL.out, ← hnm.out]; omega
     have hf0 := hfi.out.below (show Below W0.heap.size W0 W0.drew from (Below.refl _ _).drew)
     have hf1 := hf0.rows' (hf0.rows.perm ((List.Perm.cons _ (List.Perm.swap _ _ _)).trans (List.Perm.swap _ _ _)))
     have hmo := (hf0.rows.own _ (mCs ..)).at (by show ((es2.map Prod.fst).map Ent.pkg).length ≤ _; rw [hml]; omega)
     have hsrc := PkgsAt.src hmo
     dsimp only at hsrc
     rw [hml] at hsrc
     have hop : ownsC W0.drew w.heap.size 41 4 (.slice ap nL cp) nL (((es.map Prod.fst).map Ent.pkg).flatMap pkL) := by have := hf1.rows.own _ (mCs ..); unfold PRow at this; dsimp only at this; rw [hpl] at this; exact this
     obtain ⟨iP, hiP, hzP0, hzP1, hzP2⟩ := info_parts infoPkg
     have HRD := hdL hround; have HF1 := hdL hf1; have HSRC := hdL hsrc; have HOP := hdL hop; have HPL := hdL hpl; have HML := hdL hml; have HEL := hdL hel
     have c60 := cOh hf0.c6 0
     have c70 := cOh hf0.c7 0
     clear hround hf1 hmo hsrc hop hpl hml hel hf0 o6 t2
     go_upto_region 25 with fail
     refine wp_noP ?_
     refine UpV.start [(7, fun W : World => W.cell? ⟨b6, 0, none⟩ = some (.pointer (some ⟨Tb, 0, none⟩))), (4, fun W : World => W.cell? ⟨b7, 0, none⟩ = some (.slice ap nL cp))] (by kernel_rfl) ?_
     have hA0 : ∀ q ∈ ([(7, fun W : World => W.cell? ⟨b6, 0, none⟩ = some (.pointer (some ⟨Tb, 0, none⟩))), (4, fun W : World => W.cell? ⟨b7, 0, none⟩ = some (.slice ap nL cp))] : List (Nat × (World → Prop))), q.2 W0.drew := by
      intro q hq
      rcases List.mem_cons.1 hq with rfl | hq
      ·exact c60
      obtain rfl := mSg.1 hq
      exact c70
     refine UpV.tk 0 7 (v := .pointer (some ⟨Tb, 0, none⟩)) rfl (mCs ..) (Or.inl ⟨by rfl, ?_⟩) (owe_all hA0) ?_
     ·intro w hSw; have s0 := hSw; go_simp
     try simp only [Act.put, sqZ]
     refine UpV.tp 1 (v := .slice a2 n2 c2) rfl (Or.inl ⟨by rfl, ?_⟩) (owe_all hA0) ?_
     ·intro w hSw; rfl
     try simp only [Act.put, sqZ]
     refine UpV.tk 2 4 (v := .slice ap nL cp) rfl (mCm _ (mCs ..)) (Or.inl ⟨by rfl, ?_⟩) (owe_all hA0) ?_
     ·intro w hSw; have s0 := hSw; go_simp
     try simp only [Act.put, sqZ]
     refine UpV.tp 3 (v := .slice am nm cm) rfl (Or.inl ⟨by rfl, ?_⟩) (owe_all hA0) ?_
     ·intro w hSw; rfl
     try simp only [Act.put, sqZ]
     refine UpV.one 4 (by kernel_rfl) rfl ?_
     intro K hK
     refine step_append_c rfl (.tmp 116) (.tmp 117) 22 22 rfl w.heap.size 41 iP _ 4 40 Tryz.underlying22 hiP hzP0 hzP1 hzP2 rfl (.slice ap nL cp) (by first | rfl | (simp [Act.eval]; done) | (simp [Act.eval, Act.put]; done)) nL _ HOP.out (.slice am nm cm) (by first | rfl | (simp [Act.eval]; done) | (simp [Act.eval, Act.put]; done)) nm _ HSRC.out (by unfold maxLen; omega) (by omega) HF1.out.bel.size ?_
     intro aq cq Wb hob hgb hnb
     have hfb := HF1.out.rowApp HPL.out HML.out hgb hob hnb
     have e6 := cOh hfb.c6 0
     have e2 := cOh hfb.cT 2
     have ef := foh hfb.cT
     refine hK.out _ _ (owe2 (fun _ => e6) (fun h => (by cases h))) ?_
     clear hK K
     try simp only [Act.put, sqZ]
     refine UpV.tp 5 (v := .pointer (some ⟨Tb, 0, none⟩)) rfl (Or.inl ⟨by rfl, ?_⟩) (owe2 (fun _ => e6) (fun h => (by cases h))) ?_
     ·intro w hSw; rfl
     try simp only [Act.put, sqZ]
     refine UpV.tp 6 (v := .pointer (some ⟨Tb, 2, none⟩)) rfl (Or.inl ⟨by rfl, ?_⟩) (owe2 (fun _ => e6) (fun h => (by cases h))) ?_
     ·intro w hSw; rfl
     try simp only [Act.put, sqZ]
     refine UpV.one 7 (by kernel_rfl) rfl ?_
     intro K hK
     try simp only [sqG]
     try go_simp
     refine hK.out _ _ (owe2 (fun h => (by cases h)) (fun h => (by cases h))) ?_
     clear hK K
     try simp only [Act.put, sqZ]
     have hfS := hfb.setT 2 (.slice a2 n2 c2) (y0 := .slice aE nE cE) (y1 := .int .i64 mk) (y2 := .slice a2 n2 c2) rfl
     have e7 := cOh hfS.c7 0
     have e7f := foh hfS.c7
     refine UpV.one 8 (by kernel_rfl) rfl ?_
     intro K hK
     try simp only [sqG]
     try go_simp
     refine hK.out _ _ (owe2 (fun h => (by cases h)) (fun h => (by cases h))) ?_
     clear hK K
     try simp only [Act.put, sqZ]
     have hfE := hfS.setP (.slice aq (nL + nm) cq)
     have hnE3 : nL + nm = nE := by omega
     rw [hnE3] at hfE ⊢
     clear hnE3
     have hfF := hfE.rows' (hfE.rows.sub (rs' := (.slice aq nE cq, (es.map Prod.fst).map Ent.pkg ++ (es2.map Prod.fst).map Ent.pkg) :: (.slice a2 n2 c2, l2) :: (es ++ es2).map withR) (((((List.Sublist.refl _).cons _).cons_cons _).cons _).cons_cons _))
     obtain ⟨VE, hVE⟩ : ∃ V, V = (Wb.setCell ⟨Tb, 2, none⟩ (.slice a2 n2 c2)).setCell ⟨b7, 0, none⟩ (.slice aq nE cq) := ⟨_, rfl⟩
     rw [← hVE] at hfF ⊢
     have o6 := cOh hfF.c6 0
     have hdE := hfF.ox.block D _ HK.out (fun e => by cases e)
     have HFF := hdL hfF; have HDE := hdL hdE
     clear hfb e6 e2 ef hfS e7 e7f hfE hfF hdE hVE hob hgb hnb c60 c70
     refine UpV.done (by kernel_rfl) ?_
     refine NoP.go ?_
     obtain ⟨f', rfl⟩ : ∃ f', f = f' + 1 := ⟨f - 1, by omega⟩
     by_cases hz : nm = 0
     ·subst hz
      obtain rfl : es2 = [] := eN0 hnm.out.symm
      go_wp2_with fail
      refine marks_ret1 (v := .tuple #[.pointer (some ⟨Tb, 0, none⟩), .int .i64 0]) rfl HDE.out (by simp [results, Tryz.results16, go_sem]) ?_
      have hff := HFF.out
      rw [List.append_nil] at hff
      have hnE2 : nE = es.length := by have := hnL.out; omega
      rw [hnE2, hn2.out] at hff
      refine fixP_some (es := es) (l := l2) (m := mk) ?_ (HFF.out.bel.grown (grownBy_putObj' _ D _) HFF.out.bel.size (fun k e => by obtain rfl : D = k := sIj e; exact Nat.le_trans HZ5.out HVD.out)) ?_
      ·rw [← hfix.out]; exact fix_end HRD.out
      ·refine (hff.stages (by simp) (fun x hx => mCm _ (mCm _ (List.mem_map.2 ⟨x, hx, rfl⟩))) ⟨by rw [← hnE2]; omega, by rw [← hn2.out]; omega⟩ (fun x hx => by have := hcl.out x hx; omega)).keep (keep_putObj HDE.out rfl)
     ·have hbz : ((nm : Int) == 0) = false := by simp; exact hz
      have hne : es2.map Prod.fst ≠ [] := fun e => hz (by rw [hnm.out]; have := congrArg List.length e; rwa [List.length_map] at this)
      have hfn := fix_next (f := f') HRD.out hne
      rw [hfix.out, ← List.map_append] at hfn
      have HFN := hdL hfn
      clear hfn hne
      go_wp2_with fail
      go_roundw
      case rel =>
       refine ⟨s + 1, f', mk, es ++ es2, l2, aE, nE, cE, a2, n2, c2, aq, cq, by go_num, by omega, by omega, by omega, hk0, hk1, by omega, hdL HEL.out.symm, hn2, hdL HFN.out.symm, hcl2, hdL ?_⟩
       have h1 := HFF.out
       rw [← List.map_append, ← List.map_append] at h1
       exact h1
      case measure => simp [intOf]; omega
 case stop =>
  rintro D c9 pre V hD hp hx hK
  exact hx.elim
end Go.Proofs.YtaagkndhgicifaaGreat
