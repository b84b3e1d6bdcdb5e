/- DERIVED. Texts of this claim, put together: StkAdd, StkRec, ShBack, RngO, RowSort, ShRev, ShOver. -/
import Derived.Test.YtaagkndhgicifaaGreatSv06
import Derived.RangeFuncNested
import Derived.RangeFuncBound
import Derived.RangeFuncCalls
import Derived.RangeFuncLeaves
import Derived.Shelf.GgSortFunc.RowK
import Derived.Shelf.GgSortFunc.InsertionK
import Derived.Test.YtaagkndhgicifaaGreatStdC
import Derived.Shelf.RegionOpen
import Derived.OwnWalkIn
import Derived.TacticsInMore
import Derived.LoopNIn
import Derived.LoopIn
namespace Go.Proofs.YtaagkndhgicifaaGreat
set_option maxHeartbeats 32000000
open Go.RowKit
set_option linter.unusedVariables false
set_option linter.unusedSimpArgs false
set_option maxRecDepth 100000
variable {Y : Zone}
theorem stkaddY_any (w : World) (B : Nat) (F : List Nat) (st : St) (h : StkAtY Y w B F st) (Z : Zone) (vs : List Value) (r : Rc) (hr : RecAt Z w vs r) (hY : ∀ b, w.heap.size ≤ b → Y b) :
  Calls Tryz.prog 28 #[.pointer (some ⟨B, 0, none⟩), .agg vs.toArray] w (SeedPY Y w B F (st.add r).1 (st.add r).2) := by
 obtain ⟨S, t, a1, n1, c1, a2, n2, c2, a3, n3, c3, rfl, hS, hl, -, -, -⟩ := hr.shape
 have HYY := hdL hY
 clear hY
 have hG := fun W (hw : Below w.heap.size w W) => sgoodR_any W Z _ r (hr.below hw)
 have hH := fun W (hw : Below w.heap.size w W) => stkhas_any W B F st (h.below hw) r.pkg
 have hC := fun W (hw : Below w.heap.size w W) (hg : goodRc r = true) => scopy_any W Z _ r (hr.below hw) (small_good hg)
 obtain ⟨x, hx⟩ : ∃ x, x = r.pkg.2.1 := ⟨_, rfl⟩
 obtain ⟨y, hy⟩ : ∃ x, x = r.pkg.2.2.1 := ⟨_, rfl⟩
 obtain ⟨z, hz⟩ : ∃ x, x = r.pkg.2.2.2 := ⟨_, rfl⟩
 obtain ⟨r1, hr1⟩ : ∃ R, R = goodRc r := ⟨_, rfl⟩
 obtain ⟨r3, hr3⟩ : ∃ R, R = st.has r.pkg := ⟨_, rfl⟩
 rw [← hr1] at hG; rw [← hr3] at hH
 obtain ⟨st', hst⟩ : ∃ s, s = (st.add r).1 := ⟨_, rfl⟩
 obtain ⟨c, hc⟩ : ∃ s, s = (st.add r).2 := ⟨_, rfl⟩
 rw [← hst, ← hc]
 rw [hS] at hH
 rw [← hx, ← hy, ← hz] at hH hG hC ⊢
 obtain ⟨w1, hw1, hb1, hx1, y1, y2⟩ := aBk w #[.string S, .int .i64 x, .int .i64 y, .int .i64 z, .string t, .slice a1 n1 c1, .slice a2 n2 c2, .slice a3 n3 c3] 62
 obtain ⟨B3, hB3⟩ : ∃ B, w.heap.size = B := ⟨_, rfl⟩
 rw [hB3] at hx1
 obtain ⟨k0, k1, k2, k3, k4, k5, k6, k7⟩ := cells8 hx1
 have HG := hdL hG; have HH := hdL hH; have HCC := hdL hC; have H := hdL h; have HB := hdL hb1; have HX := hdL hx1
 have HST := hdL hst; have HC := hdL hc; have HR1 := hdL hr1; have HR3 := hdL hr3
 have HXYZ := hdL (And.intro hx (And.intro hy hz)); have HS := hdL hS
 clear hG hH hC h hr hb1 hx1 hst hc hr1 hr3 hx hy hz y1 y2 hl hS
 go_enter Tryz.func28, Tryz.ntmps28
 go_wp2_with fail
 refine (HG.out _ HB.out).mono ?_
 rintro e w2 ⟨rfl, h2⟩
 have H2 := hdL (HB.out.trans (h2.mono HB.out.size))
 have HX2 := hdL ((h2.block _ (loh HX.out)).trans HX.out)
 clear k0 k1 k2 k3 k4 k5 k6 k7 h2
 obtain ⟨k0, k1, k2, k3, k4, k5, k6, k7⟩ := cells8 HX2.out
 cases r1
 ·go_wp2_with fail
  go_ret
  obtain ⟨rfl, rfl⟩ : st' = st ∧ c = 1 := by
   rw [HST.out, HC.out]
   unfold St.add
   rw [← HR1.out]
   exact ⟨rfl, rfl⟩
  exact SeedPY.same H.out H2.out
 ·go_wp2_with fail
  refine (HH.out _ H2.out).mono ?_
  rintro e w4 ⟨rfl, h4⟩
  have H4 := hdL (H2.out.trans (h4.mono H2.out.size))
  have HX4 := hdL ((h4.block _ (loh HX2.out)).trans HX2.out)
  clear k0 k1 k2 k3 k4 k5 k6 k7 h4
  obtain ⟨k0, k1, k2, k3, k4, k5, k6, k7⟩ := cells8 HX4.out
  cases r3
  ·obtain ⟨N, vN, es, hF, h5⟩ := H.out.below H4.out
   subst hF
   by_cases h8 : st.recs.length = 32
   ·have m0 : w4.cell? ⟨B, 2, none⟩ = some (.int .i64 32) := by
     have := cOh h5.cells 2
     rw [h8] at this
     exact this
    clear h5
    have H8 := hdL h8; clear h8
    go_wp2_with fail
    go_ret
    obtain ⟨rfl, rfl⟩ : st' = st ∧ c = 13 := by
     rw [HST.out, HC.out]
     unfold St.add
     rw [← HR1.out, ← HR3.out, if_pos H8.out]
     exact ⟨rfl, rfl⟩
    exact SeedPY.same H.out H4.out
   ·have hst' : st' = ⟨st.seeds, st.recs ++ [r]⟩ := by
     rw [HST.out]
     unfold St.add
     rw [← HR1.out, ← HR3.out, if_neg h8]
     rfl
    have hc' : c = 0 := by
     rw [HC.out]
     unfold St.add
     rw [← HR1.out, ← HR3.out, if_neg h8]
     rfl
    subst hst' hc'
    have hfew := h5.few
    have hent : ∀ f, ¬ EntOf st r.pkg.1 (verNum r.pkg.2) f := fun f hf => by
     have := (entOf_iff h5.ok).1 hf
     have h9 := HR3.out
     rw [← ent_has, this] at h9
     cases h9
    have hgv : verGood r.pkg.2 = true := by
     have := HR1.out.symm
     unfold goodRc pkgB at this
     simp only [Bool.and_eq_true] at this
     exact this.1.2
    have hput := fun W (vs' : List Value) (hb : Below w4.heap.size w4 W) (hv : RecAt (zNew w4.heap.size) W vs' r) => stkput_any W B N vN es st ⟨st.seeds, st.recs ++ [r]⟩ st.seeds.length st.recs.length (st.seeds.length + st.recs.length) r.pkg (.bool false :: vs') (some r) (h5.toStkCore.keep hb.size hb.block) h5.many.1 h5.many.2 (by omega)
     ⟨vs', rfl, hv.keep (Keep.of_block (fun b _ hz => ⟨fun hb => absurd (h5.toStkCore.lt b hb) (by have : w4.heap.size ≤ b := hz; omega), HYY.out b (Nat.le_trans H4.out.size hz)⟩) (Nat.le_refl _) (fun _ _ _ => rfl)), HR1.out.symm⟩ hent (fun m j f => ent_add hgv m j f) (ok_add h5.ok hgv HR3.out.symm) ⟨hfew.1, by rw [lAp]; simp; omega⟩
    rw [HS.out, ← HXYZ.out.1, ← HXYZ.out.2.1, ← HXYZ.out.2.2] at hput
    have HPUT := hdL hput; have H5 := hdL h5
    have HCP := hdL (fun W (hb : Below w4.heap.size w4 W) => HCC.out W (H4.out.trans (hb.mono H4.out.size)) HR1.out.symm)
    have m0 : w4.cell? ⟨B, 2, none⟩ = some (.int .i64 (st.recs.length : Int)) := cOh h5.cells 2
    obtain ⟨n, hn⟩ : ∃ n, n = st.recs.length := ⟨_, rfl⟩
    rw [← hn] at m0 h8
    have o1 : ((n : Int) == 32) = false := by simp; omega
    have o2 : (n : Int) ≤ 31 := by omega
    have o3 : (0 : Int) ≤ n := by omega
    have HNN := hdL hn
    clear hput h5 h8 hfew hent hgv hn
    go_upto_region 9 with fail
    refine UpTo.start (fun W : World => W.cell? ⟨B3, 0, none⟩ = some (.string S) ∧ W.cell? ⟨B3, 1, none⟩ = some (.int .i64 x) ∧ W.cell? ⟨B3, 2, none⟩ = some (.int .i64 y) ∧ W.cell? ⟨B3, 3, none⟩ = some (.int .i64 z) ∧ W.cell? ⟨B3, 4, none⟩ = some (.string t) ∧ W.cell? ⟨B3, 5, none⟩ = some (.slice a1 n1 c1) ∧ W.cell? ⟨B3, 6, none⟩ = some (.slice a2 n2 c2) ∧ W.cell? ⟨B3, 7, none⟩ = some (.slice a3 n3 c3)) 6 (by kernel_rfl) ?_
    have hS0 : (fun W : World => W.cell? ⟨B3, 0, none⟩ = some (.string S) ∧ W.cell? ⟨B3, 1, none⟩ = some (.int .i64 x) ∧ W.cell? ⟨B3, 2, none⟩ = some (.int .i64 y) ∧ W.cell? ⟨B3, 3, none⟩ = some (.int .i64 z) ∧ W.cell? ⟨B3, 4, none⟩ = some (.string t) ∧ W.cell? ⟨B3, 5, none⟩ = some (.slice a1 n1 c1) ∧ W.cell? ⟨B3, 6, none⟩ = some (.slice a2 n2 c2) ∧ W.cell? ⟨B3, 7, none⟩ = some (.slice a3 n3 c3)) w4.drew := ⟨k0, k1, k2, k3, k4, k5, k6, k7⟩
    refine UpTo.takeP 0 (v := .pointer (some ⟨B, 0, none⟩)) rfl (by kernel_rfl) (by kernel_rfl) (by kernel_rfl) (by kernel_rfl) (fun _ _ _ h => h) (Or.inl ⟨by rfl, ?_⟩) hS0 ?_
    ·intro w hSw; rfl
    try simp only [Act.put, sqZ]
    refine UpTo.takeP 1 (v := .pointer (some ⟨B3, 0, none⟩)) rfl (by kernel_rfl) (by kernel_rfl) (by kernel_rfl) (by kernel_rfl) (fun _ _ _ h => h) (Or.inl ⟨by rfl, ?_⟩) hS0 ?_
    ·intro w hSw; rfl
    try simp only [Act.put, sqZ]
    refine UpTo.take 2 (v := .agg #[.string S, .int .i64 x, .int .i64 y, .int .i64 z]) rfl (by kernel_rfl) (by kernel_rfl) (by kernel_rfl) (by kernel_rfl) (fun _ _ _ h => h) (Or.inl ⟨by rfl, ?_⟩) hS0 ?_
    ·intro w hSw; obtain ⟨q0, q1, q2, q3, q4, q5, q6, q7⟩ := hSw; go_simp
    try simp only [Act.put, sqZ]
    refine UpTo.one 3 (by kernel_rfl) rfl (fun K hK => ?_)
    try simp only [sqG]
    go_simp
    refine hK.out _ _ (fun _ => hS0) ?_
    clear hK K
    try simp only [Act.put, sqZ]
    refine UpTo.one 4 (by kernel_rfl) rfl (fun K hK => ?_)
    try simp only [sqG]
    go_simp
    go_at_call 63
    refine (HCP.out _ ((Below.refl _ _).drew)).mono ?_
    rintro e w5 ⟨vs', rfl, hv1, hv2, -⟩
    have hb5 := ((Below.refl _ w4).drew).trans hv2
    obtain ⟨S', t', b1, j1, d1, b2, j2, d2, b3, j3, d3, rfl, f1, -⟩ := hv1.shape
    have hx5 := (hb5.block _ (loh HX4.out)).trans HX4.out
    have HB5 := hdL hb5
    have HP := hdL (HPUT.out w5 _ hb5 hv1)
    clear hS0 k0 k1 k2 k3 k4 k5 k6 k7
    have hS0 : (fun W : World => W.cell? ⟨B3, 0, none⟩ = some (.string S) ∧ W.cell? ⟨B3, 1, none⟩ = some (.int .i64 x) ∧ W.cell? ⟨B3, 2, none⟩ = some (.int .i64 y) ∧ W.cell? ⟨B3, 3, none⟩ = some (.int .i64 z) ∧ W.cell? ⟨B3, 4, none⟩ = some (.string t) ∧ W.cell? ⟨B3, 5, none⟩ = some (.slice a1 n1 c1) ∧ W.cell? ⟨B3, 6, none⟩ = some (.slice a2 n2 c2) ∧ W.cell? ⟨B3, 7, none⟩ = some (.slice a3 n3 c3)) w5 := ⟨cOh hx5 0, cOh hx5 1, cOh hx5 2, cOh hx5 3, cOh hx5 4, cOh hx5 5, cOh hx5 6, cOh hx5 7⟩
    clear hv1 hv2 hb5 hx5
    try go_simp
    refine hK.out _ _ (fun _ => hS0) ?_
    clear hK K
    try simp only [Act.put, sqZ]
    refine UpTo.one 5 (by kernel_rfl) rfl (fun K hK => ?_)
    try simp only [sqG]
    try go_simp
    refine hK.out _ _ (fun _ => hS0) ?_
    clear hK K
    try simp only [Act.put, sqZ]
    refine UpTo.one 6 (by kernel_rfl) rfl (fun K hK => ?_)
    try simp only [sqG]
    try go_simp
    go_at_call 61
    refine HP.out.mono ?_
    rintro e w6 ⟨rfl, N', vN', es', g1, g2, g3, g4, g5⟩
    have G1 := hdL g1; have G2 := hdL g2; have G3 := hdL g3; have G4 := hdL g4; have G5 := hdL g5
    clear g1 g2 g3 g4 g5 m0 hS0
    try go_simp
    refine hK.out _ _ (fun h => by cases h) ?_
    clear hK K
    try simp only [Act.put, sqZ]
    refine UpTo.done (by kernel_rfl) ?_
    have q1 : w6.cell? ⟨B, 2, none⟩ = some (.int .i64 (st.recs.length : Int)) := cOh G1.out.cells 2
    rw [← HNN.out] at q1
    have qf := foh G1.out.cells
    go_wp2_with fail
    go_ret
    have s1 := set_at 2 (.int .i64 ((n : Int) + 1)) G1.out.cells (ds := #[.pointer (some ⟨N', 0, none⟩), .int .i64 st.seeds.length, .int .i64 ((n : Int) + 1)]) (by simp)
    have hn : st.recs.length = n := HNN.out.symm
    have hBF : B ∈ footOf B N vN es := mCs
    have hw5 := H4.out.trans (HB5.out.mono H4.out.size)
    refine ⟨rfl, footOf B N' vN' es', ⟨N', vN', es', rfl, (G1.out.recount (ns' := st.seeds.length) (nr' := n + 1) s1 (by simp [World.setCell]) (fun b hb => bHs _ _ _ _ (by simpa using hb))) |> fun h => ⟨by rw [lAp, hn]; exact h, ?_⟩⟩, ?_, fun b hb => ?_⟩
    ·exact ((Ch.of_below hw5 _).trans G2.out (fun x hx => .inl hx)).setCell (p := ⟨B, 2, none⟩) (.inl hBF) _
    ·exact (G3.out b hb).imp id (fun h => Nat.le_trans hw5.size h)
    ·have e1 : (st.recs ++ [r]).length = st.recs.length + 1 := by simp
     show es'.length ≤ st.seeds.length + (st.recs ++ [r]).length ∧ ∀ e ∈ es', e.rows.length ≤ st.seeds.length + (st.recs ++ [r]).length
     rw [e1]
     exact ⟨by have := G4.out; omega, fun x hx => by have := G5.out x hx; omega⟩
  ·go_wp2_with fail
   go_ret
   obtain ⟨rfl, rfl⟩ : st' = st ∧ c = 11 := by
    rw [HST.out, HC.out]
    unfold St.add
    rw [← HR1.out, ← HR3.out]
    exact ⟨rfl, rfl⟩
   exact SeedPY.same H.out H4.out
theorem stkadd_any (w : World) (B : Nat) (F : List Nat) (st : St) (h : StkAt w B F st) (Z : Zone) (vs : List Value) (r : Rc) (hr : RecAt Z w vs r) :
  Calls Tryz.prog 28 #[.pointer (some ⟨B, 0, none⟩), .agg vs.toArray] w (SeedP w B F (st.add r).1 (st.add r).2) := stkaddY_any w B F st h Z vs r hr (fun _ _ => trivial)
variable {Y : Zone}
def zero8 : List Value := [.string ⟨#[]⟩, .int .i64 0, .int .i64 0, .int .i64 0, .string ⟨#[]⟩, .slice none 0 0, .slice none 0 0, .slice none 0 0]
theorem ent_rec_none {st : St} {p : Pk} (h : st.ent p = none ∨ st.ent p = some none) : st.rec? p = none := by
 unfold St.ent at h
 cases hq : st.rec? p with
 | none => rfl
 | some r => rw [hq] at h; rcases h with h | h <;> cases h
theorem ent_rec_some {st : St} {p : Pk} {r : Rc} (h : st.ent p = some (some r)) : st.rec? p = some r := by
 unfold St.ent at h
 cases hq : st.rec? p with
 | none =>
  rw [hq] at h
  dsimp only at h
  split at h <;> cases h
 | some r' => rw [hq] at h; exact sIj h
def RecipeP (st : St) (p : Pk) (w : World) (e : Ending) (w' : World) : Prop :=
 ∃ vs b, e = .returned (.tuple #[.agg vs.toArray, .bool b]) ∧ Below w.heap.size w w' ∧ ((∃ r, st.rec? p = some r ∧ b = true ∧ RecAt (zNew w.heap.size) w' vs r ∧ BuildO w.heap.size w' vs r) ∨ (st.rec? p = none ∧ b = false ∧ vs = zero8))
theorem stkrecipe_any (w : World) (B : Nat) (F : List Nat) (st : St) (h : StkAtY Y w B F st) (p : Pk) :
  Calls Tryz.prog 83 #[.pointer (some ⟨B, 0, none⟩), .agg #[strV p.1, .int .i64 p.2.1, .int .i64 p.2.2.1, .int .i64 p.2.2.2]] w (RecipeP st p w) := by
 obtain ⟨S, -, hS, -, -⟩ := strV_is p.1
 obtain ⟨x, hx⟩ : ∃ x, x = p.2.1 := ⟨_, rfl⟩
 obtain ⟨y, hy⟩ : ∃ x, x = p.2.2.1 := ⟨_, rfl⟩
 obtain ⟨z, hz⟩ : ∃ x, x = p.2.2.2 := ⟨_, rfl⟩
 obtain ⟨w1, hw1, hb1, hx1, y1, y2⟩ := aBk w #[.string S, .int .i64 x, .int .i64 y, .int .i64 z] 41
 obtain ⟨w2, hw2, hb2, hx2, y3, y4⟩ := aBk w1 #[.string ⟨#[]⟩, .int .i64 0, .int .i64 0, .int .i64 0, .string ⟨#[]⟩, .slice none 0 0, .slice none 0 0, .slice none 0 0] 62
 obtain ⟨B3, hB3⟩ : ∃ B, w.heap.size = B := ⟨_, rfl⟩
 obtain ⟨D, hD⟩ : ∃ B, w1.heap.size = B := ⟨_, rfl⟩
 have hb12 := hb1.trans (hb2.mono hb1.size)
 have hx12 := (hb2.block _ (by omega)).trans hx1
 rw [hB3] at hx12; rw [hD] at hx2
 have hG := stkget_any w2 B F st (h.below hb12) p
 rw [hS, ← hx, ← hy, ← hz] at hG ⊢
 obtain ⟨k0, k1, k2, k3⟩ := cells4 hx12
 have HG := hdL hG; have HB := hdL hb12; have HX := hdL hx12; have HD := hdL hx2
 have HSZ := hdL (show w.heap.size = B3 ∧ D = B3 + 1 ∧ w2.heap.size = B3 + 2 from by omega)
 have HFL := hdL (fun b hb => h.lt b hb)
 clear h hG hb1 hb2 hb12 hx1 hx2 hx12 hS hx hy hz y1 y2 y3 y4
 go_enter Tryz.func83, Tryz.ntmps83
 go_wp2_with fail
 refine HG.out.mono ?_
 intro e w3 hge
 obtain ⟨l, b, rfl, h3, ⟨sb, ss, sx, sy, sz, st0, sa1, sn1, sc1, sa2, sn2, sc2, sa3, sn3, sc3, rfl⟩, hb, hcase⟩ := hge.shp
 have HCASE := hdL hcase; have HBB := hdL hb; have H3 := hdL h3
 have hx4 := (h3.block _ (loh HD.out)).trans HD.out
 have HD3 := hdL hx4
 clear hge h3 hb hcase k0 k1 k2 k3 hx4
 obtain ⟨C, hC⟩ : ∃ C, w3.heap.size = C := ⟨_, rfl⟩
 obtain ⟨w4, hw4, hb4, hx5, y1, y2⟩ := aBk w3 #[.bool sb, .string ss, .int .i64 sx, .int .i64 sy, .int .i64 sz, .string st0, .slice sa1 sn1 sc1, .slice sa2 sn2 sc2, .slice sa3 sn3 sc3] 121
 rw [hC] at hx5
 have H4 := hdL (H3.out.trans (hb4.mono H3.out.size))
 have HX5 := hdL hx5
 have HSC := hdL (show w2.heap.size ≤ C from by have := H3.out.size; omega)
 have H34 := hdL hb4; have HW4 := hdL hw4; have HCC := hdL hC
 clear hw4 hb4 hx5 y1 y2 hC
 go_upto_region 2 with fail
 rw [HW4.out, HCC.out]
 have q0 : w4.cell? ⟨C, 0, none⟩ = some (.bool sb) := cOh HX5.out 0
 have hd4 := (H4.out.block _ (loh HD.out)).trans HD.out
 obtain ⟨z0, z1, z2, z3, z4, z5, z6, z7⟩ := cells8 hd4
 have zf := foh hd4
 have HD4 := hdL hd4; clear hd4
 cases b
 ·have HRN := hdL (show st.rec? p = none from by
   rcases HCASE.out with ⟨en, _, h2, _⟩ | ⟨h1, _, _⟩
   ·cases h2
   ·exact ent_rec_none (.inl h1))
  go_wp2_with fail
  obtain ⟨W, hW, hWx, hWb, -, -⟩ := eight_set HD4.out (.string ⟨#[]⟩) (.int .i64 0) (.int .i64 0) (.int .i64 0) (.string ⟨#[]⟩) (.slice none 0 0) (.slice none 0 0) (.slice none 0 0)
  rw [hW]
  obtain ⟨r0, r1, r2, r3, r4, r5, r6, r7⟩ := cells8 hWx
  refine bodyPost_ret (v := .tuple #[.agg #[.string ⟨#[]⟩, .int .i64 0, .int .i64 0, .int .i64 0, .string ⟨#[]⟩, .slice none 0 0, .slice none 0 0, .slice none 0 0], .bool false]) (by simp [results, Tryz.results83, go_sem, r0, r1, r2, r3, r4, r5, r6, r7]) rfl ?_
  exact ⟨zero8, false, rfl, hWb _ _ (by have := HSZ.out; omega) (HB.out.trans (H4.out.mono HB.out.size)), .inr ⟨HRN.out, rfl, rfl⟩⟩
 ·cases sb
  ·obtain ⟨r, hrec, hat, hgd⟩ : ∃ r, st.rec? p = some r ∧ RecAt (zOut Y F) w3 [.string ss, .int .i64 sx, .int .i64 sy, .int .i64 sz, .string st0, .slice sa1 sn1 sc1, .slice sa2 sn2 sc2, .slice sa3 sn3 sc3] r ∧ goodRc r = true := by
    rcases HCASE.out with ⟨en, h1, _, h3⟩ | ⟨_, h2, _⟩
    ·cases en with
     | none => cases h3
     | some r =>
      obtain ⟨rs, h4, h5, h6⟩ := h3
      obtain rfl := (List.cons.inj h4).2
      exact ⟨r, ent_rec_some h1, h5, h6⟩
    ·cases h2
   have hcp := scopy_any w4 (zOut Y F) _ r (hat.below H34.out) (small_good hgd)
   have HCP := hdL hcp; have HREC := hdL hrec
   clear hcp hrec hat hgd
   have c1 := cOh HX5.out 1
   have c2 := cOh HX5.out 2
   have c3 := cOh HX5.out 3
   have c4 := cOh HX5.out 4
   have c5 := cOh HX5.out 5
   have c6 := cOh HX5.out 6
   have c7 := cOh HX5.out 7
   have c8 := cOh HX5.out 8
   go_wp2_with fail
   refine HCP.out.mono ?_
   rintro e w5 ⟨vs', rfl, hv1, hv2, hv3⟩
   have hv1' := hv1
   obtain ⟨s1, t1, b1, j1, d1, b2, j2, d2, b3, j3, d3, rfl, -⟩ := hv1'.shape
   clear hv1'
   obtain ⟨x1, hx1⟩ : ∃ x, x = r.pkg.2.1 := ⟨_, rfl⟩
   obtain ⟨x2, hx2⟩ : ∃ x, x = r.pkg.2.2.1 := ⟨_, rfl⟩
   obtain ⟨x3, hx3⟩ : ∃ x, x = r.pkg.2.2.2 := ⟨_, rfl⟩
   rw [← hx1, ← hx2, ← hx3] at hv1 ⊢
   have HV1 := hdL hv1; have HV3 := hdL hv3
   have H5 := hdL (H4.out.trans (hv2.mono H4.out.size)); have H45 := hdL hv2
   have hd5 := (hv2.block _ (loh HD4.out)).trans HD4.out
   have HD5 := hdL hd5
   clear hx1 hx2 hx3 hv1 hv3 z0 z1 z2 z3 z4 z5 z6 z7 zf q0 hv2 c1 c2 c3 c4 c5 c6 c7 c8
   obtain ⟨z0, z1, z2, z3, z4, z5, z6, z7⟩ := cells8 hd5
   have zf := foh hd5
   clear hd5
   go_wp2_with fail
   obtain ⟨W, hW, hWx, hWb, hWo, hWs⟩ := eight_set HD5.out (.string s1) (.int .i64 x1) (.int .i64 x2) (.int .i64 x3) (.string t1) (.slice b1 j1 d1) (.slice b2 j2 d2) (.slice b3 j3 d3)
   rw [hW]
   obtain ⟨r0, r1, r2, r3, r4, r5, r6, r7⟩ := cells8 hWx
   refine bodyPost_ret (v := .tuple #[.agg #[.string s1, .int .i64 x1, .int .i64 x2, .int .i64 x3, .string t1, .slice b1 j1 d1, .slice b2 j2 d2, .slice b3 j3 d3], .bool true]) (by simp [results, Tryz.results83, go_sem, r0, r1, r2, r3, r4, r5, r6, r7]) rfl ?_
   have hsz := HSZ.out
   have h24 := H4.out.size
   have hk : Keep (zNew w4.heap.size) (zNew w.heap.size) w5 W := Keep.of_block (fun b _ h => Nat.le_trans (show w.heap.size ≤ w4.heap.size by omega) h) (by rw [hWs]; exact Nat.le_refl _) (fun b _ hz => hWo b (by have : w4.heap.size ≤ b := hz; omega))
   obtain ⟨b0, hb0, hbo⟩ := HV3.out
   exact ⟨_, true, rfl, hWb _ _ (by omega) (HB.out.trans (H5.out.mono HB.out.size)), .inl ⟨r, HREC.out, rfl, HV1.out.keep hk, b0, hb0, hbo.keepB (show w.heap.size ≤ w4.heap.size by omega) (by rw [hWs]; exact Nat.le_refl _) (fun b hz _ => hWo b (by omega))⟩⟩
  ·have HRN := hdL (show st.rec? p = none from by
    rcases HCASE.out with ⟨en, h1, _, h3⟩ | ⟨_, h2, _⟩
    ·cases en with
     | none => exact ent_rec_none (.inr h1)
     | some r => obtain ⟨rs, h4, _⟩ := h3; cases h4
    ·cases h2)
   go_wp2_with fail
   obtain ⟨W, hW, hWx, hWb, -, -⟩ := eight_set HD4.out (.string ⟨#[]⟩) (.int .i64 0) (.int .i64 0) (.int .i64 0) (.string ⟨#[]⟩) (.slice none 0 0) (.slice none 0 0) (.slice none 0 0)
   rw [hW]
   obtain ⟨r0, r1, r2, r3, r4, r5, r6, r7⟩ := cells8 hWx
   refine bodyPost_ret (v := .tuple #[.agg #[.string ⟨#[]⟩, .int .i64 0, .int .i64 0, .int .i64 0, .string ⟨#[]⟩, .slice none 0 0, .slice none 0 0, .slice none 0 0], .bool false]) (by simp [results, Tryz.results83, go_sem, r0, r1, r2, r3, r4, r5, r6, r7]) rfl ?_
   exact ⟨zero8, false, rfl, hWb _ _ (by have := HSZ.out; omega) (HB.out.trans (H4.out.mono HB.out.size)), .inr ⟨HRN.out, rfl, rfl⟩⟩
def CloneP (w : World) (ps : List (KV Int)) (e : Ending) (w' : World) : Prop := ∃ v', e = .returned v' ∧ w'.ownsRow w.heap.size 185 10 v' ps.length (rowsV kInt ps) ∧ Below w.heap.size w w'
theorem src_rows {w : World} {S : Nat} {v : Value} {ps : List (KV Int)} (h : ShIAt w S v ps) (hl : ps.length ≤ 1000000) : Src Tryz.prog 10 182 v ps.length (rowsV kInt ps) w := by
 obtain ⟨a, c, rfl, hb, hc⟩ := owns_shape h.row (by omega)
 cases a with
 | none =>
  obtain ⟨e1, rfl⟩ := hb.nil rfl
  obtain rfl : ps = [] := eN0 e1
  exact Src.ofNil w Tryz.underlying182 0
 | some ad =>
  refine Src.ofSlice w Tryz.underlying182 ad ps.length c (rowsV kInt ps) (rowsV_length kInt h.wid) (fun j u hj => ?_) (rowsV_one kInt h.wid)
  have hne : ps.length ≠ 0 := fun e => by
   obtain rfl := eN0 e
   simp [rowsV] at hj
  obtain ⟨g, e, _, _, h3⟩ := hc hne
  obtain rfl := sIj e
  rw [Addr.add_lit, Nat.zero_add]
  exact h3 j u hj
theorem clonep_any (w : World) (S : Nat) (v : Value) (ps : List (KV Int)) (h : ShIAt w S v ps) (hl : ps.length ≤ 1000000) :
  Calls Tryz.prog 123 #[v] w (CloneP w ps) := by
 have hq := fun (w : World) (a : Option Addr) (n c : Nat) => Lib.run_eql_slice_nil (P := Tryz.prog) w 182 185 a n c 0 0 Tryz.underlying182
 obtain ⟨a, c, rfl, hb, -⟩ := owns_shape h.row (by omega)
 cases a with
 | none =>
  obtain ⟨h1, rfl⟩ := hb.nil rfl
  obtain rfl : ps = [] := eN0 h1
  clear h hb h1
  go_enter Tryz.func123, Tryz.ntmps123
  go_wp2
  go_ret
  exact ⟨.slice none 0 0, rfl, World.ownsRow_nil _ _ _ _, Below.refl _ _⟩
 | some ad =>
  have hb1 : Below w.heap.size w (w.alloc (.cells #[] 185)) := (Below.refl _ w).alloc (Nat.le_refl _) _
  have hsrc := src_rows (h.below hb1) hl
  obtain ⟨i0, hi, hz0, hz1, hz2⟩ := info_parts infoPairI
  have HB1 := hdL hb1; have HL := hdL hl
  obtain ⟨n, hn⟩ : ∃ n, n = ps.length := ⟨_, rfl⟩
  rw [← hn] at hsrc hl ⊢
  unfold CloneP
  rw [← hn]
  have HN := hdL hn
  clear h hb1 hb hn
  go_enter Tryz.func123, Tryz.ntmps123
  go_wp2_with (at_builtin; refine wpList_append_srcs rfl (.tmp 5) (.tmp 6) 182 182 rfl w.heap.size 185 i0 _ 10 144 Tryz.underlying182 hi hz0 hz1 hz2 rfl (by decide) (.slice (some ⟨w.heap.size, 0, none⟩) 0 0) rfl 0 [] (owns_none w 185 10 (by decide)) (.slice (some ad) n c) rfl _ _ hsrc (by unfold maxLen; omega) (by omega) (by simp) ?_; intro a' c' w' hown hgrow hnil _; simp only [Nat.zero_add, List.nil_append] at hown)
  go_wp2
  go_ret
  exact ⟨_, rfl, hown, HB1.out.grown hgrow HB1.out.size (fun k e => Nat.le_of_eq (show w.heap.size = k from sIj e))⟩
structure OnlyX (X : Nat → Obj → Prop) (W W' : World) : Prop where
 size : W.heap.size ≤ W'.heap.size
 block : ∀ (k : Nat) (o : Obj), W.heap[k]? = some o → (o.isCells = true → ¬ X k o) → W'.heap[k]? = some o
theorem OnlyX.refl (X : Nat → Obj → Prop) (W : World) : OnlyX X W W := ⟨Nat.le_refl _, fun _ _ h _ => h⟩
theorem OnlyX.trans {X : Nat → Obj → Prop} {A B C : World} (h : OnlyX X A B) (g : OnlyX X B C) : OnlyX X A C :=
 ⟨Nat.le_trans h.size g.size, fun k o hk hx => g.block k o (h.block k o hk hx) hx⟩
theorem OnlyX.of_below {X : Nat → Obj → Prop} {A B : World} (h : Below A.heap.size A B) : OnlyX X A B := ⟨h.size, fun k _ hk _ => (h.block k (Array.getElem?_eq_some_iff.1 hk).1).trans hk⟩
theorem OnlyX.of_grown {X : Nat → Obj → Prop} {A B : World} {row : Option Nat} (h : A.grownBy B row) (hr : ∀ k o, row = some k → A.heap[k]? = some o → o.isCells = true ∧ X k o) : OnlyX X A B :=
 ⟨h.size, fun k o hk hx => (h.block k (Array.getElem?_eq_some_iff.1 hk).1 (fun e => by obtain ⟨h1, h2⟩ := hr k o e.symm hk; exact hx h1 h2)).trans hk⟩
theorem OnlyX.set {X : Nat → Obj → Prop} {A : World} {b i : Nat} {v : Value} {o : Obj} (hb : A.heap[b]? = some o) (hc : o.isCells = true) (hx : X b o) : OnlyX X A (A.setCell ⟨b, i, none⟩ v) :=
 ⟨(KeepsWalks.setCell A _ v).size, fun k o' hk hxk => (bHs _ _ _ k (fun e => by
  subst e
  rw [hb] at hk
  obtain rfl := sIj hk
  exact hxk hc hx)).trans hk⟩
structure RndX (X : Nat → Obj → Prop) (n : Nat) (W W' : World) : Prop where
 size : W.heap.size ≤ W'.heap.size
 new : ∀ (k : Nat) (o : Obj), n ≤ k → W.heap[k]? = some o → (o.isCells = true → ¬ X k o) → W'.heap[k]? = some o
 cells : ∀ (k : Nat) (o : Obj), W.heap[k]? = some o → o.isCells = true → ¬ X k o → W'.heap[k]? = some o
theorem RndX.refl (X : Nat → Obj → Prop) (n : Nat) (W : World) : RndX X n W W := ⟨Nat.le_refl _, fun _ _ _ h _ => h, fun _ _ h _ _ => h⟩
theorem RndX.trans {X : Nat → Obj → Prop} {n : Nat} {A B C : World} (h : RndX X n A B) (g : RndX X n B C) : RndX X n A C :=
 ⟨Nat.le_trans h.size g.size, fun k o hn hk hx => g.new k o hn (h.new k o hn hk hx) hx, fun k o hk ho hx => g.cells k o (h.cells k o hk ho hx) ho hx⟩
theorem RndX.mono {X : Nat → Obj → Prop} {n m : Nat} {A B : World} (h : RndX X n A B) (hn : n ≤ m) : RndX X m A B := ⟨h.size, fun k o hk => h.new k o (Nat.le_trans hn hk), h.cells⟩
theorem OnlyX.rnd {X : Nat → Obj → Prop} {n : Nat} {A B : World} (h : OnlyX X A B) : RndX X n A B :=
 ⟨h.size, fun k o _ hk hx => h.block k o hk hx, fun k o hk _ hx => h.block k o hk (fun _ => hx)⟩
theorem RndX.of_below {X : Nat → Obj → Prop} {n : Nat} {A B : World} (h : Below A.heap.size A B) : RndX X n A B := (OnlyX.of_below h).rnd
theorem round_anyDepth {F : Fence} (hd : F.depth = none) {m m' : Nat} {P : Program} {l : Nat} {f : FuncId} {tmps : Array Value} {assign body : Code} {w : World} {R : Ending → World → Prop}
  (h : RoundIn F m P l f tmps assign body w R) : RoundIn F m' P l f tmps assign body w R := ⟨h.1, fun c cs _ => h.2 c cs ((by simp [Fence.room, hd]))⟩
theorem yield_anyDepth {F : Fence} (hd : F.depth = none) {m : Nat} (m' : Nat) {P : Program} {l : Nat} {args : Array Value} {W : World} {R : Ending → World → Prop} (h : YieldAt F m P l args W R) : YieldAt F m' P l args W R := by
 obtain ⟨fn, tmps, assign, body, hy, hR⟩ := h
 exact ⟨fn, tmps, assign, body, hy, round_anyDepth hd hR⟩
theorem grown_below {A B : World} (h : Below A.heap.size A B) : A.grownBy B none := ⟨h.os, h.tape, h.output, h.size, fun k hk _ => h.block k hk⟩
theorem own_below {β : Type} {B : Nat} {I : β → World → Prop} (h : OwnFrom B I) {s : β} {A C : World} (hs : I s A) (hb : Below A.heap.size A C) : I s C :=
 h s A C none hs (grown_below hb) (fun r e => by cases e)
theorem calls_of_wp_marks {P : Program} {f : FuncId} {fn : Func} {c : Code} {args : Array Value} {w : World} {R : Ending → World → Prop} (hf : P.funcs[f]? = some fn) (hb : fn.body = some c)
  (h : c.wp P (bodyPostM Fence.wide 3 P fn R) { tmps := args ++ Array.replicate (fn.ntmps - args.size) undef, defers := [] } w) : Calls P f args w R :=
 (callsIn_wide (n := 3)).1 (callsIn_of_wp_marks hf hb trivial (wpIn_wide.2 h) rfl)
theorem marks_ret0 {P : Program} {fn : Func} {R : Ending → World → Prop} {a : Act} {w : World} {v : Value} (h : (results fn a.tmps).run P w = .ok v w) (hd : a.defers = []) (hR : R (.returned v) w) : bodyPostM Fence.wide 3 P fn R .ret a w := by
 show LeavesInM _ _ _ _ _ _ a.defers .returning w
 rw [hd]
 exact ⟨v, h, hR⟩
theorem marks_ret1 {P : Program} {fn : Func} {R : Ending → World → Prop} {a : Act} {w : World} {v : Value} {D : Nat} (hd : a.defers = [{ target := .collected D, args := #[] }]) (hK : w.heap[D]? = some (.deferred (some [])))
  (h : (results fn a.tmps).run P (w.putObj D (.deferred none)) = .ok v (w.putObj D (.deferred none))) (hR : R (.returned v) (w.putObj D (.deferred none))) : bodyPostM Fence.wide 3 P fn R .ret a w := by
 show LeavesInM _ _ _ _ _ _ a.defers .returning w
 rw [hd]
 exact ⟨by simp, .inl ⟨D, _, rfl, run_takeDeferred hK, v, h, hR⟩⟩
theorem marks_end1 {P : Program} {fn : Func} {R : Ending → World → Prop} {a : Act} {w : World} {v : Value} {D : Nat} (hd : a.defers = [{ target := .collected D, args := #[] }]) (hK : w.heap[D]? = some (.deferred (some [])))
  (h : (results fn a.tmps).run P (w.putObj D (.deferred none)) = .ok v (w.putObj D (.deferred none))) (hR : R (.returned v) (w.putObj D (.deferred none))) : bodyPostM Fence.wide 3 P fn R .normal a w := by
 show LeavesInM _ _ _ _ _ _ a.defers .returning w
 rw [hd]
 exact ⟨by simp, .inl ⟨D, _, rfl, run_takeDeferred hK, v, h, hR⟩⟩
def StopsO {α : Type} (n : Nat) (P : Program) (g : Nat) (lb : Array Value) (encs : α → Array Value) (X : Nat → Obj → Prop) (S Sp : List α → Prop) (w : World) : Prop :=
 ∀ (l : Nat) (J Jx : List α → World → Prop) (W : World), Below w.heap.size w W → OwnFrom W.heap.size J → OwnFrom W.heap.size Jx →
  (∀ pre x W1, J pre W1 → Sp (pre ++ [x]) → YieldAt Fence.wide (n - 1) P l (encs x) W1 fun e W' =>
   (e = .returned (.bool true) ∧ J (pre ++ [x]) W' ∧ RndX X W.heap.size W1 W') ∨ (e = .returned (.bool false) ∧ Jx (pre ++ [x]) W' ∧ RndX X W.heap.size W1 W')) →
  J [] W →
  CallsIn Fence.wide n P g (#[.func (.yield l) #[] #[]] ++ lb) W fun e W' => (∃ v, e = .returned v) ∧ ((∃ xs, S xs ∧ J xs W') ∨ (∃ pre, Sp pre ∧ Jx pre W'))
def postO {α : Type} (X : Nat → Obj → Prop) (B : Nat) (I : List α → World → Prop) (Ix : Code → List α → World → Prop) (xs : List α) (W : World) : Exit → Act → World → Prop
 | .normal, _, W' => RndX X B W W' ∧ I xs W'
 | .ret, _, W' => RndX X B W W' ∧ Ix .ret xs W'
 | .exit id, _, W' => RndX X B W W' ∧ Ix (.exit id) xs W'
 | .goto t, _, W' => RndX X B W W' ∧ Ix (.goto t) xs W'
 | .panic _, _, _ => False
 | .outgrown, _, _ => False
structure BookAt (W : World) (D : Nat) (r : Loop) : Prop where
 rcd : W.heap[D + 1]? = some (.loop r)
 dfr : W.heap[D]? = some (.deferred (some []))
theorem BookAt.abide {W W' : World} {D : Nat} {r : Loop} {row : Option Nat} (h : BookAt W D r) (hg : W.grownBy W' row) (hr : ∀ k, row = some k → D + 2 ≤ k) : BookAt W' D r :=
 ⟨(hg.block _ (Array.getElem?_eq_some_iff.1 h.rcd).1 (fun e => by have := hr _ e.symm; omega)).trans h.rcd, (hg.block _ (Array.getElem?_eq_some_iff.1 h.dfr).1 (fun e => by have := hr _ e.symm; omega)).trans h.dfr⟩
theorem BookAt.put {W : World} {D : Nat} {r : Loop} (h : BookAt W D r) (r' : Loop) : BookAt (W.putObj (D + 1) (.loop r')) D r' :=
 ⟨World.putObj_heap_same (Array.getElem?_eq_some_iff.1 h.rcd).1, (World.putObj_heap_other (by omega)).trans h.dfr⟩
theorem BookAt.only {X : Nat → Obj → Prop} {W W' : World} {D : Nat} {r : Loop} (h : BookAt W D r) (hk : RndX X D W W') : BookAt W' D r :=
 ⟨hk.new _ _ (by omega) h.rcd (fun e => by cases e), hk.new _ _ (Nat.le_refl _) h.dfr (fun e => by cases e)⟩
theorem rnd_of {X : Nat → Obj → Prop} {W W2 : World} {D n : Nat} {r : Loop} (h : BookAt W D r) (hn : D + 2 ≤ n) (rb rr : Loop) (hk : RndX X D (W.putObj (D + 1) (.loop rb)) W2) : RndX X n W (W2.putObj (D + 1) (.loop rr)) := by
 have hz : (W.putObj (D + 1) (.loop rb)).heap.size = W.heap.size := by simp
 have h1 := hk.size
 rw [hz] at h1
 refine ⟨by simpa using h1, fun k o hnk hko hx => ?_, fun k o hko ho hxk => ?_⟩
 ·exact (World.putObj_heap_other (by omega)).trans (hk.new k o (by omega) ((World.putObj_heap_other (by omega)).trans hko) hx)
 ·have hne : k ≠ D + 1 := fun e => by
   subst e
   rw [h.rcd] at hko
   obtain rfl := sIj hko
   cases ho
  exact (World.putObj_heap_other hne).trans (hk.cells k o ((World.putObj_heap_other hne).trans hko) ho hxk)
theorem own_and_book {α : Type} {B D : Nat} (hB : D + 2 ≤ B) {I : List α → World → Prop} (hI : OwnFrom D I) (r : Loop) : OwnFrom B (fun pre W => I pre W ∧ BookAt W D r) :=
 fun s A C row hs hg hr => ⟨hI s A C row hs.1 hg (fun k e => ⟨by have := (hr k e).1; omega, (hr k e).2⟩), hs.2.abide hg (fun k e => by have := (hr k e).1; omega)⟩
structure SameCells (A B : World) : Prop where
 size : B.heap.size = A.heap.size
 cells : ∀ (k : Nat) (o : Obj), A.heap[k]? = some o → o.isCells = true → B.heap[k]? = some o
theorem SameCells.heap {A B : World} (h : SameCells A B) {k : Nat} {c : Array Value} {t : TypeId} {f : Nat × Nat} (hk : A.heap[k]? = some (.cells c t f)) : B.heap[k]? = some (.cells c t f) := h.cells k _ hk rfl
variable {n : Nat} {P : Program}
theorem range_wide {α : Type} {g : Operand} {ps : Array Tmp} {assign body : Code} {Q : Exit → Act → World → Prop} {a : Act} {w : World}
  (h1 : 1 ≤ n) {gf : Nat} {lb : Array Value} (hg : a.eval g = .func (.func gf) #[] lb) (eg : ∀ args w, (callFunc gf args).run P w = .ok (.enter gf args) w)
  {encs : α → Array Value} {X : Nat → Obj → Prop} {S Sp : List α → Prop} {w0 : World} (hseq : StopsO (n - 1) P gf lb encs X S Sp w0)
  (hb0 : Below w0.heap.size w0 w) (hps : ∀ x, (encs x).size = ps.size)
  (I : List α → World → Prop) (Ix : Code → List α → World → Prop) (hI : OwnFrom w.heap.size I) (hIx : ∀ c, OwnFrom w.heap.size (Ix c)) (h0 : I [] w)
  (hround : ∀ (l : Nat) (pre : List α) (x : α) (W : World), I pre W → Sp (pre ++ [x]) →
   assign.wpIn (Fence.wide.inRound l) (n - 1 - 1) P (Exit.then (fun a' w' => Below W.heap.size W w' ∧ ∀ W2, I pre W2 → SameCells w' W2 → body.wpIn (Fence.wide.inRound l) (n - 1 - 1) P (postO X w.heap.size I Ix (pre ++ [x]) W2) a' W2) (fun _ _ _ => False))
    { tmps := (ps.zip (encs x)).foldl (fun t (p, v) => t.setIfInBounds p v) a.tmps, defers := [] } W)
  (hdone : ∀ (D : Nat) (xs : List α) (W : World), w.heap.size ≤ D → S xs → I xs W → W.heap[D]? = some (.deferred (some [])) → Q .normal { a with defers := { target := .collected D, args := #[] } :: a.defers } W)
  (hstop : ∀ (D : Nat) (c : Code) (pre : List α) (W : World), w.heap.size ≤ D → Sp pre → Ix c pre W → W.heap[D]? = some (.deferred (some [])) → c.wpIn Fence.wide n P Q { a with defers := { target := .collected D, args := #[] } :: a.defers } W) :
  (Code.rangeFunc g ps assign body).wpIn Fence.wide n P Q a w := by
 refine wpIn_rangeFunc fun fn hfn => ?_
 obtain ⟨D, hD⟩ : ∃ D, D = w.heap.size := ⟨_, rfl⟩
 obtain ⟨rec, hrec⟩ : ∃ rec : LoopState → Option Code → Loop, rec = fun st pe => { state := st, pending := pe, fn, tmps := a.tmps, params := ps, assign, body, defers := w.heap.size } := ⟨_, rfl⟩
 obtain ⟨W1, hW1⟩ : ∃ W1, (w.alloc (.deferred (some []))).alloc (.loop (rec .ready none)) = W1 := ⟨_, rfl⟩
 have hz1 : W1.heap.size = D + 2 := by rw [← hW1, hD]; simp
 have hbk : BookAt W1 D (rec .ready none) := by
  refine ⟨?_, ?_⟩
  ·have := World.alloc_heap_new (w.alloc (.deferred (some []))) (.loop (rec .ready none))
   rw [World.size_alloc] at this
   rw [← hW1, hD]; exact this
  ·rw [← hW1, hD]; exact (Below.heap_alloc _ _ _ (by simp)).trans (World.alloc_heap_new w _)
 have hb1 : Below w0.heap.size w0 W1 := by
  rw [← hW1]; exact hb0.trans ((((Below.refl _ w).alloc (Nat.le_refl _) _).alloc (by simp) _).mono hb0.size)
 have hI1 : I [] W1 := by rw [← hW1]; exact hI.alloc _ (hI.alloc _ h0)
 refine ⟨D + 1, [{ target := .collected D, args := #[] }], W1, { target := .fn (.func gf) lb, args := #[.func (.yield (D + 1)) #[] #[]] }, W1, gf, #[.func (.yield (D + 1)) #[] #[]] ++ lb, W1, ?_, ?_, fun _ _ => trivial, ?_, fun _ => h1, ?_⟩
 ·rw [← hW1, hrec, hD]; exact run_enterLoop_outer _ _ _ _ _
 ·simp only [resolve, hg]
  simp [go_sem]
 ·simp [invoke, go_sem, eg]
 rw [← hD] at hI hIx hround
 have end1 : ∀ (jump : Option Code) (W3 : World), BookAt W3 D (rec .busy none) →
   (Instr.endRound (D + 1) jump).run P W3 = .ok (.bool jump.isNone) (W3.putObj (D + 1) (.loop (rec (if jump.isNone then .ready else .done) jump))) := fun jump W3 hk3 => by
  have hl3 := hk3.rcd
  rw [hrec] at hl3
  have := run_endRound (P := P) jump hl3
  rw [hrec]; exact this
 refine (hseq (D + 1) (fun pre W => I pre W ∧ BookAt W D (rec .ready none)) (fun pre W => ∃ c, Ix c pre W ∧ BookAt W D (rec .done (some c))) W1 hb1
  (own_and_book (by omega) hI _) (fun s A C row hs hg' hr => ?_) ?_ ⟨hI1, hbk⟩).mono ?_
 ·obtain ⟨c, hc, hk⟩ := hs
  exact ⟨c, own_and_book (by omega) (hIx c) _ s A C row ⟨hc, hk⟩ hg' hr⟩
 ·rintro pre x W ⟨hi, hk⟩ hlen
  have hl := hk.rcd
  have hy := run_yield (P := P) (args := encs x) hl (by rw [hrec]; exact hps x)
  rw [hrec] at hy
  refine ⟨fn, _, assign, body, hy, roundIn_of_wpIn hfn (wpIn_mono (hround _ pre x W hi hlen) ?_)⟩
  rintro e0 a0 Wa hp0
  cases e0 with
  | ret => exact hp0
  | exit id => exact hp0
  | goto t => exact hp0
  | panic ch => exact hp0
  | outgrown => exact hp0
  | normal =>
  obtain ⟨hba, hgo⟩ := hp0
  have hka : BookAt Wa D (rec .ready none) := ⟨(hba.block _ (Array.getElem?_eq_some_iff.1 hk.rcd).1).trans hk.rcd, (hba.block _ (Array.getElem?_eq_some_iff.1 hk.dfr).1).trans hk.dfr⟩
  have hla := hka.rcd
  have hia : I pre Wa := own_below hI hi hba
  refine ⟨_, run_beginRound hla (by rw [hrec]), ?_⟩
  have hstart : I pre (Wa.putObj (D + 1) (.loop { rec .ready none with state := .busy })) := hI.putObj _ hia (by omega) hla rfl
  have hk2 : BookAt (Wa.putObj (D + 1) (.loop { rec .ready none with state := .busy })) D (rec .busy none) := by
   have := hka.put { rec .ready none with state := .busy }
   rw [hrec] at this ⊢
   exact this
  have hsame : SameCells Wa (Wa.putObj (D + 1) (.loop { rec .ready none with state := .busy })) := ⟨by simp, fun k o hko ho => by
   refine (World.putObj_heap_other (fun e => ?_)).trans hko
   subst e
   rw [hla] at hko
   obtain rfl := sIj hko
   cases ho⟩
  refine wpIn_mono (hgo _ hstart hsame) ?_
  rintro e a3 W3 hp
  have fin : ∀ (jump : Option Code), RndX X D (Wa.putObj (D + 1) (.loop { rec .ready none with state := .busy })) W3 →
    BookAt W3 D (rec .busy none) ∧ RndX X W1.heap.size W (W3.putObj (D + 1) (.loop (rec (if jump.isNone then .ready else .done) jump))) :=
   fun jump h => ⟨hk2.only h, (RndX.of_below hba).trans (rnd_of hka (by omega) _ _ h)⟩
  cases e with
  | normal =>
   obtain ⟨ho, hi3⟩ := hp
   obtain ⟨hk3, hr3⟩ := fin none ho
   exact ⟨_, _, end1 none W3 hk3, .inl ⟨rfl, ⟨hI.putObj _ hi3 (by omega) hk3.rcd rfl, hk3.put _⟩, hr3⟩⟩
  | ret =>
   obtain ⟨ho, hi3⟩ := hp
   obtain ⟨hk3, hr3⟩ := fin (some .ret) ho
   exact ⟨_, _, end1 (some .ret) W3 hk3, .inr ⟨rfl, ⟨.ret, (hIx _).putObj _ hi3 (by omega) hk3.rcd rfl, hk3.put _⟩, hr3⟩⟩
  | exit id =>
   obtain ⟨ho, hi3⟩ := hp
   obtain ⟨hk3, hr3⟩ := fin (some (.exit id)) ho
   exact ⟨_, _, end1 (some (.exit id)) W3 hk3, .inr ⟨rfl, ⟨.exit id, (hIx _).putObj _ hi3 (by omega) hk3.rcd rfl, hk3.put _⟩, hr3⟩⟩
  | goto t =>
   obtain ⟨ho, hi3⟩ := hp
   obtain ⟨hk3, hr3⟩ := fin (some (.goto t)) ho
   exact ⟨_, _, end1 (some (.goto t)) W3 hk3, .inr ⟨rfl, ⟨.goto t, (hIx _).putObj _ hi3 (by omega) hk3.rcd rfl, hk3.put _⟩, hr3⟩⟩
  | panic ch => exact hp.elim
  | outgrown => exact hp.elim
 ·rintro e W2 ⟨⟨v, rfl⟩, (⟨xs, hS, hi, hk⟩ | ⟨pre, hSp, c, hi, hk⟩)⟩
  ·have hl := hk.rcd
   refine ⟨none, _, by have := run_endLoop (P := P) hl (by rw [hrec]; simp); rw [hrec] at this; exact this, ?_⟩
   exact hdone D xs _ (by omega) hS (hI.putObj _ hi (by omega) hl rfl) ((World.putObj_heap_other (by omega)).trans hk.dfr)
  ·have hl := hk.rcd
   refine ⟨some c, _, by have := run_endLoop (P := P) hl (by rw [hrec]; simp); rw [hrec] at this; exact this, ?_⟩
   exact hstop D c pre _ (by omega) hSp ((hIx c).putObj _ hi (by omega) hl rfl) ((World.putObj_heap_other (by omega)).trans hk.dfr)
open Go.RowKit Go.Sort
section
variable {α : Type}
theorem flat_len {enc : α → List Value} {k : Nat} (hk : ∀ x, (enc x).length = k) (rs : List α) : (rs.flatMap enc).length = rs.length * k := by
 induction rs with
 | nil => simp
 | cons r rs ih => simp only [List.flatMap_cons, lAp, hk, ih, List.length_cons, Nat.add_mul, Nat.one_mul]; omega
theorem flat_at {enc : α → List Value} {k : Nat} (hk : ∀ x, (enc x).length = k) : ∀ (rs : List α) (i : Nat) (r : α), rs[i]? = some r → ∀ c, c < k → (rs.flatMap enc)[i * k + c]? = (enc r)[c]?
 | [], i, r, h, _, _ => by simp at h
 | x :: rs, 0, r, h, c, hc => by
  obtain rfl : x = r := by simpa using h
  rw [List.flatMap_cons, Nat.zero_mul, Nat.zero_add, List.getElem?_append_left (by rw [hk]; exact hc)]
 | x :: rs, i + 1, r, h, c, hc => by
  have h' : rs[i]? = some r := by simpa using h
  have e : (i + 1) * k + c = k + (i * k + c) := by rw [Nat.add_mul, Nat.one_mul]; omega
  rw [List.flatMap_cons, e, List.getElem?_append_right (by rw [hk]; omega), hk, Nat.add_sub_cancel_left]
  exact flat_at hk rs i r h' c hc
theorem flatK_at [Inhabited α] {enc : α → List Value} {k : Nat} (hk : ∀ x, (enc x).length = k) (k0 : 0 < k) (rs : List α) {j : Nat} (hj : j < rs.length * k) : (rs.flatMap enc)[j]? = some (flatK enc k rs.toArray)[j]! := by
 have hi : j / k < rs.length := by rw [Nat.div_lt_iff_lt_mul k0]; exact hj
 have hc : j % k < k := Nat.mod_lt _ k0
 have hr := gEg hi
 have h1 := flat_at hk rs (j / k) _ hr (j % k) hc
 rw [Nat.div_add_mod' j k] at h1
 rw [h1, get_flatK _ _ _ _ (by simpa using hj)]
 have e1 : (rs.toArray)[j / k]! = rs[j / k] := by
  rw [getElem!_pos rs.toArray (j / k) (by simpa using hi)]; simp
 rw [e1, getElem!_pos (enc rs[j / k]) (j % k) (by rw [hk]; exact hc)]
 exact gEg (by rw [hk]; exact hc)
theorem holdsK_own [Inhabited α] {enc : α → List Value} {k : Nat} (hk : ∀ x, (enc x).length = k) (k0 : 0 < k) {w : World} {g : Nat} {cur : Array Value} {e : TypeId} {rs : List α} (hb : w.heap[g]? = some (.cells cur e (0, 0))) (ht : cur.toList.take (rs.length * k) = rs.flatMap enc) : HoldsK enc k w g 0 rs.toArray := by
 intro j hj
 have hj' : j < rs.length * k := by simpa using hj
 refine ⟨?_, by simp [World.frozen?, hb]⟩
 have h1 := flatK_at hk k0 rs hj'
 rw [← ht, List.getElem?_take_of_lt hj'] at h1
 simp only [World.cell?, hb, Nat.zero_add]
 simp only [Option.isSome_none, Bool.false_eq_true, if_false]
 rw [← Array.getElem?_toList, h1]
 rfl
theorem heap_putK [Inhabited α] {enc : α → List Value} {k : Nat} {w : World} {g n : Nat} {os : Array Obj} {cur : Array Value} {e : TypeId} {fr : Nat × Nat} (d : Array α) (hb : w.heap[g]? = some (.cells cur e fr)) :
  (grow (putRowK enc k (Sort.ahead w n) g 0 d) os).heap[g]? = some (.cells (putCells id 0 (flatK enc k d) cur) e fr) := by
 have hg : g < w.heap.size := (Array.getElem?_eq_some_iff.1 hb).1
 rw [heap_grow_old _ _ (by simpa [putRowK, Sort.ahead] using hg)]
 simp [putRowK, putRow, mapBlock, Sort.ahead, Array.getElem?_modify, hb, onCells]
theorem grownBy_putK [Inhabited α] {enc : α → List Value} {k : Nat} {w : World} {g n : Nat} {os : Array Obj} (d : Array α) : w.grownBy (grow (putRowK enc k (Sort.ahead w n) g 0 d) os) (some g) := by
 refine ⟨rfl, rfl, rfl, by simp [putRowK, Sort.ahead], fun j hk hne => ?_⟩
 rw [heap_grow_old _ _ (by simpa [putRowK, Sort.ahead] using hk)]
 have : g ≠ j := fun e => hne (by rw [e])
 simp [putRowK, putRow, mapBlock, Sort.ahead, Array.getElem?_modify, this]
theorem take_putK [Inhabited α] {enc : α → List Value} {k : Nat} (hk : ∀ x, (enc x).length = k) (k0 : 0 < k) (cur : Array Value) (ts : List α) (h : ts.length * k ≤ cur.size) : (putCells id 0 (flatK enc k ts.toArray) cur).toList.take (ts.length * k) = ts.flatMap enc := by
 apply List.ext_getElem?
 intro j
 by_cases hj : j < ts.length * k
 ·rw [List.getElem?_take_of_lt hj, Array.getElem?_toList, flatK_at hk k0 ts hj]
  simp [putCells, hj, show j < cur.size by omega]
 ·rw [List.getElem?_take_eq_none (by omega), List.getElem?_eq_none (by rw [flat_len hk]; omega)]
theorem own_putK [Inhabited α] {enc : α → List Value} {k : Nat} (hk : ∀ x, (enc x).length = k) (k0 : 0 < k) {w : World} {base g cap n : Nat} {e : TypeId} {os : Array Obj} {cur : Array Value} {m : Nat} {ts : List α} (hl : ts.length = m) (hbase : base ≤ g) (hb : w.heap[g]? = some (.cells cur e (0, 0)))
  (h1 : m ≤ cap) (h2 : cap ≤ maxLen) (h3 : cur.size = cap * k) :
  (grow (putRowK enc k (Sort.ahead w n) g 0 ts.toArray) os).ownsRow base e k (.slice (some ⟨g, 0, none⟩) m cap) m (ts.flatMap enc) :=
 ⟨by rw [flat_len hk, hl], .inr ⟨g, cap, _, rfl, hbase, heap_putK _ hb, h1, h2, by simp [putCells, h3], by
  rw [← hl]
  refine take_putK hk k0 cur ts ?_
  rw [h3, hl]
  exact Nat.mul_le_mul_right k h1⟩⟩
end
def encL (k : Nat) (l : List Value) : List Value := if l.length = k ∧ (l.all fun v => v.oneCell') = true then l else List.replicate k (.bool false)
theorem encL_len (k : Nat) (l : List Value) : (encL k l).length = k := by
 unfold encL
 split
 ·rename_i h; exact h.1
 ·simp
theorem encL_one (k : Nat) (l : List Value) : ∀ v ∈ encL k l, v.oneCell' = true := by
 unfold encL
 split
 ·rename_i h; exact fun v hv => List.all_eq_true.1 h.2 v hv
 ·intro v hv
  rw [(List.mem_replicate.1 hv).2]
  rfl
theorem encL_of {k : Nat} {l : List Value} (h : l.length = k) (h1 : ∀ v ∈ l, v.oneCell' = true) : encL k l = l := by
 unfold encL
 rw [if_pos ⟨h, List.all_eq_true.2 h1⟩]
theorem flat_encL {α : Type} {k : Nat} (f : α → List Value) (ps : List α) (h : ∀ p ∈ ps, (f p).length = k) (h1 : ∀ p ∈ ps, ∀ v ∈ f p, v.oneCell' = true) : (ps.map f).flatMap (encL k) = ps.flatMap f := by
 induction ps with
 | nil => rfl
 | cons p ps ih =>
  rw [List.map_cons, List.flatMap_cons, List.flatMap_cons, encL_of (h p (mCs ..)) (h1 p (mCs ..)), ih (fun q hq => h q (mCm _ hq)) (fun q hq => h1 q (mCm _ hq))]
open Go.RowKit Go.Shelf Go.Sort
theorem rowsV_flat {ps : List (KV Int)} (hw : WidK 10 ps) : (ps.map (rowV kInt)).flatMap (encL 10) = rowsV kInt ps :=
 flat_encL (rowV kInt) ps (fun p hp => by rw [rowV_length]; exact hw.len p hp) (fun p hp => rowV_one kInt (hw.one p hp))
theorem rev_any (w : World) (base : Nat) (v : Value) (ps : List (KV Int)) (h : w.ownsRow base 185 10 v ps.length (rowsV kInt ps)) (hw : WidK 10 ps) (hl : ps.length ≤ 1000000) :
  Calls Tryz.prog 183 #[v] w fun e w' => e = .returned (.tuple #[]) ∧ w'.ownsRow base 185 10 v ps.length (rowsV kInt ps.reverse) ∧ w.grownBy w' v.ownBlock := by
 have hwr : WidK 10 ps.reverse := hw.sub (fun p hp => List.mem_reverse.1 hp)
 rcases h.2 with ⟨rfl, h0⟩ | ⟨g, cap, cur, rfl, hbase, hb, h1, h2, h3, h4⟩
 ·obtain rfl : ps = [] := eN0 h0
  have hc := AnyQ.slices_Reverse_empty Tryz.laysRevI none 0 w
  change Calls Tryz.prog 183 _ _ _ at hc
  refine hc.mono ?_
  rintro e w' ⟨rfl, rfl⟩
  exact ⟨rfl, World.ownsRow_nil _ _ _ _, World.grownBy.refl _ _⟩
 ·have h4' : cur.toList.take ((ps.map (rowV kInt)).length * 10) = (ps.map (rowV kInt)).flatMap (encL 10) := by rw [rowsV_flat hw, List.length_map]; exact h4
  have hH := holdsK_own (encL_len 10) (by decide) hb h4'
  have hc := AnyQ.slices_Reverse Tryz.laysRevI 10 Tryz.isAgg185 Tryz.sizeOf185 (encL 10) (encL_len 10) (encL_one 10) g 0 cap _ w hH (by simp; omega)
  change Calls Tryz.prog 183 _ _ _ at hc
  rw [List.size_toArray, List.length_map] at hc
  refine hc.mono ?_
  rintro e w' ⟨rfl, n, rfl⟩
  have e1 : putRowK (encL 10) 10 (Sort.ahead w n) g 0 (ps.map (rowV kInt)).toArray.reverse = grow (putRowK (encL 10) 10 (Sort.ahead w n) g 0 ((ps.reverse.map (rowV kInt)).toArray)) #[] := by
   rw [grow_empty, List.map_reverse, List.reverse_toArray]
  rw [e1]
  have ho := own_putK (n := n) (os := #[]) (base := base) (ts := ps.reverse.map (rowV kInt)) (encL_len 10) (by decide) (by simp) hbase hb h1 h2 h3
  rw [rowsV_flat hwr] at ho
  exact ⟨rfl, ho, grownBy_putK _⟩
section
open Go.RowKit Go.Shelf
attribute [local go_sem] Oper.semAt_some
theorem overI_any (w : World) (v : Value) (a : Option Addr) (l c : Nat) (hv : v = .slice a l c) :
  Calls Tryz.prog 122 #[v] w fun e w' => e = .returned (.func (.func 153) #[] #[.pointer (some ⟨w.heap.size, 0, none⟩)]) ∧ w' = w.alloc (.cells #[v] 182) := by
 subst hv
 go_enter Tryz.func122, Tryz.ntmps122
 go_wp2
 go_ret
 exact ⟨rfl, rfl⟩
def OverTo (w : World) (ps : List (KV Int)) (e : Ending) (w' : World) : Prop :=
 ∃ C a c, e = .returned (.func (.func 153) #[] #[.pointer (some ⟨C, 0, none⟩)]) ∧ w'.heap[C]? = some (.cells #[.slice a ps.length c] 182 (0, 0)) ∧ w'.ownsRow w.heap.size 185 10 (.slice a ps.length c) ps.length (rowsV kInt ps) ∧ w.heap.size ≤ C ∧ Below w.heap.size w w'
theorem backI_nil (w : World) : Calls Tryz.prog 155 #[.pointer none] w (OverTo w []) := by
 go_enter Tryz.func155, Tryz.ntmps155
 go_wp2_with fail
 refine (overI_any _ _ none 0 0 rfl).mono ?_
 rintro e w' ⟨rfl, rfl⟩
 go_wp2_with fail
 go_ret
 exact ⟨w.heap.size, none, 0, rfl, heap_alloc_new w _, World.ownsRow_nil _ _ _ _, Nat.le_refl _, (Below.refl _ w).alloc (Nat.le_refl _) _⟩
theorem backI_any (w : World) (S : Nat) (v : Value) (ps : List (KV Int)) (h : ShIAt w S v ps) (hl : ps.length ≤ 1000000) :
  Calls Tryz.prog 155 #[.pointer (some ⟨S, 0, none⟩)] w (OverTo w ps.reverse) := by
 have HC := hdL (clonep_any w S v ps h hl)
 obtain ⟨a, c, rfl⟩ := owns_form h.row
 have k0 := cOh h.cells 0
 have HW := hdL h.wid
 clear h
 go_enter Tryz.func155, Tryz.ntmps155
 go_wp2_with fail
 refine HC.out.mono ?_
 rintro e w1 ⟨v', rfl, h1, h2⟩
 obtain ⟨a', c', rfl⟩ := owns_form h1
 have HR := hdL (rev_any w1 _ _ ps h1 HW.out hl)
 have H1 := hdL h1; have H2 := hdL h2; clear h1 h2 k0
 go_wp2_with fail
 refine HR.out.mono ?_
 rintro e w2 ⟨rfl, h3, h4⟩
 have H3 := hdL h3
 have H4 := hdL (H2.out.grown h4 H2.out.size (fun k e => (World.ownsRow.lt H1.out k e).1))
 clear h3 h4
 go_wp2_with fail
 refine (overI_any w2 _ a' ps.length c' rfl).mono ?_
 rintro e w3 ⟨rfl, e3⟩
 have E3 := hdL e3; clear e3
 go_wp2_with fail
 go_ret
 have hb : Below w2.heap.size w2 w3 := by rw [E3.out]; exact (Below.refl _ w2).alloc (Nat.le_refl _) _
 have hC : w3.heap[w2.heap.size]? = some (.cells #[.slice a' ps.length c'] 182 (0, 0)) := by rw [E3.out]; exact heap_alloc_new w2 _
 have hwr : WidK 10 ps.reverse := HW.out.sub (fun p hp => List.mem_reverse.1 hp)
 have hrow : w3.ownsRow w.heap.size 185 10 (.slice a' ps.length c') ps.length (rowsV kInt ps.reverse) := by rw [E3.out]; exact World.ownsRow.alloc H3.out _
 exact ⟨w2.heap.size, a', c', rfl, by rw [List.length_reverse]; exact hC, by rw [List.length_reverse]; exact hrow, H4.out.size, H4.out.trans (hb.mono H4.out.size)⟩
theorem cells_of_cell {W : World} {a : Addr} {v : Value} (h : W.cell? a = some v) : ∃ o : Obj, W.heap[a.block]? = some o ∧ o.isCells = true := by
 unfold World.cell? at h
 cases ho : W.heap[a.block]? with
 | none => simp [ho] at h
 | some o => exact ⟨o, rfl, by cases o <;> simp_all [Obj.isCells]⟩
def encP (p : KV Int) : Array Value := #[.int .i64 p.1, .agg p.2.toArray]
theorem overI_stops (n C : Nat) (c : Nat) (a : Option Addr) (ps : List (KV Int)) (w : World) (X : Nat → Obj → Prop) (hn : 1 ≤ n) (hl : ps.length ≤ 1000000) (hw : WidK 10 ps) (hsh : ∀ p ∈ ps, Shp p.2) (hC : w.heap[C]? = some (.cells #[.slice a ps.length c] 182 (0, 0))) (base : Nat) (hr : w.ownsRow base 185 10 (.slice a ps.length c) ps.length (rowsV kInt ps)) (hg : ∀ b c f, ¬ X b (.cells c 185 f)) :
  StopsO n Tryz.prog 153 #[.pointer (some ⟨C, 0, none⟩)] encP X (fun ys => ys = ps) (fun pre => pre <+: ps) w := by
 intro l J Jx W hW hJ hJx hY h0
 have hC' := cOh ((hW.block C (loh hC)).trans hC) 0
 have HW := hdL hw; have HSH := hdL hsh
 have hrow : ps ≠ [] → ∃ b cur, a = some ⟨b, 0, none⟩ ∧ W.heap[b]? = some (.cells cur 185 (0, 0)) := by
  intro hne
  rcases hr.2 with ⟨_, e2⟩ | ⟨g, cap, cur, e1, _, hgb, _⟩
  ·exact absurd (eN0 e2) hne
  ·obtain ⟨rfl, _, _⟩ := Value.slice.inj e1
   exact ⟨g, cur, rfl, (hW.block g (loh hgb)).trans hgb⟩
 have HROW := hdL hrow
 have HR := hdL ((RdK.of_owns hw (by decide) hr).below hW); have HJ := hdL hJ; have HG := hdL hg
 clear hC hr hW hJ hJx hg hw hsh hrow
 refine callsIn_of_wp Tryz.func153 rfl trivial ?_ rfl
 simp only [Tryz.ntmps153, List.size_toArray, List.length_cons, List.length_nil, Nat.reduceAdd, Nat.reduceSub, Array.replicate_succ, Array.replicate_zero, List.push_toArray, List.append_toArray, List.nil_append, List.cons_append]
 gi_wp2
 gi_loopw [7] (fun i wr => ∃ k : Nat, k ≤ ps.length ∧ i = .int .i64 k ∧ Hid (J (ps.take k) wr) ∧ Hid (∀ b, a = some ⟨b, 0, none⟩ → ps ≠ [] → wr.heap[b]? = W.heap[b]?)) (fun i _ => ps.length - (intOf i).toNat)
 case atStart => exact ⟨0, Nat.zero_le _, rfl, h0, fun _ _ _ => rfl⟩
 case round =>
  obtain ⟨k, hk, rfl, hJs, hnx⟩ := hrel
  by_cases hlt : k < ps.length
  ·have hne : ps ≠ [] := by intro e; rw [e] at hlt; exact absurd hlt (Nat.not_lt_zero _)
   obtain ⟨b, rfl, hb, hc⟩ := HR.out hne
   obtain ⟨p, hp⟩ : ∃ p, ps[k]? = some p := ⟨_, gEg hlt⟩
   have hpre : ps.take k ++ [p] <+: ps := by
    have : ps.take (k + 1) = ps.take k ++ [p] := by rw [List.take_add_one, hp]; rfl
    rw [← this]
    exact List.take_prefix _ _
   obtain ⟨sb, ss, sx, sy, sz, st0, sa1, sn1, sc1, sa2, sn2, sc2, sa3, sn3, sc3, hval⟩ := HSH.out p (List.mem_of_getElem? hp)
   have HPRE := hdL hpre; have HP := hdL hp
   have hblk := hnx.out b rfl hne
   have keep : ∀ j u, (rowV kInt p)[j]? = some u → wr.cell? ⟨b, k * 10 + j, none⟩ = some u := fun j u hj => (World.cell?_of_block (a := ⟨b, k * 10 + j, none⟩) hblk).trans (hc k p hp j u hj)
   obtain ⟨pk, pl⟩ := p
   dsimp only at hval
   subst hval
   have c0 : wr.cell? ⟨b, k * 10, none⟩ = some (.int .i64 pk) := keep 0 _ rfl
   have c1 : wr.cell? ⟨b, k * 10 + 1, none⟩ = some (.bool sb) := keep 1 _ rfl
   have c2 : wr.cell? ⟨b, k * 10 + 2, none⟩ = some (.string ss) := keep 2 _ rfl
   have c3 : wr.cell? ⟨b, k * 10 + 3, none⟩ = some (.int .i64 sx) := keep 3 _ rfl
   have c4 : wr.cell? ⟨b, k * 10 + 4, none⟩ = some (.int .i64 sy) := keep 4 _ rfl
   have c5 : wr.cell? ⟨b, k * 10 + 5, none⟩ = some (.int .i64 sz) := keep 5 _ rfl
   have c6 : wr.cell? ⟨b, k * 10 + 6, none⟩ = some (.string st0) := keep 6 _ rfl
   have c7 : wr.cell? ⟨b, k * 10 + 7, none⟩ = some (.slice sa1 sn1 sc1) := keep 7 _ rfl
   have c8 : wr.cell? ⟨b, k * 10 + 8, none⟩ = some (.slice sa2 sn2 sc2) := keep 8 _ rfl
   have c9 : wr.cell? ⟨b, k * 10 + 9, none⟩ = some (.slice sa3 sn3 sc3) := keep 9 _ rfl
   obtain ⟨b2, cur, eb, hob⟩ := HROW.out hne
   obtain rfl : b = b2 := by injection eb with eb; injection eb
   have hbw : b < wr.heap.size := cell_lt c0
   have hJa : J (ps.take k) (wr.alloc (.cells #[.int .i64 pk, .bool sb, .string ss, .int .i64 sx, .int .i64 sy, .int .i64 sz, .string st0, .slice sa1 sn1 sc1, .slice sa2 sn2 sc2, .slice sa3 sn3 sc3] 185)) := OwnFrom.alloc HJ.out _ hJs.out
   have HBL := hdL hblk; have HNE := hdL hne; have HOB := hdL hob
   obtain ⟨fn, tmps, assign, body, hy, hR⟩ := hY (ps.take k) _ _ hJa HPRE.out
   unfold encP at hy
   dsimp only at hy
   clear hc hblk hp hJa hne keep hob hpre eb
   gi_wp2
   refine hR.mono ?_
   rintro e W3 (⟨rfl, hJ3, hk3⟩ | ⟨rfl, hJx3, -⟩)
   ·have HJ3 := hdL hJ3; have HK3 := hdL hk3; clear hJ3 hk3
    gi_wp2
    go_roundw
    case rel =>
     refine ⟨k + 1, by omega, by go_num, ?_, fun b' e' hne => ?_⟩
     ·rw [List.take_add_one, HP.out]; exact HJ3.out
     ·have ho1 := HBL.out.trans HOB.out
      obtain rfl : b = b' := by injection e' with e'; injection e'
      have h1 : (wr.alloc (.cells #[.int .i64 pk, .bool sb, .string ss, .int .i64 sx, .int .i64 sy, .int .i64 sz, .string st0, .slice sa1 sn1 sc1, .slice sa2 sn2 sc2, .slice sa3 sn3 sc3] 185)).heap[b]? = some (.cells cur 185 (0, 0)) := (Below.heap_alloc wr _ b hbw).trans ho1
      have h2 := HK3.out.cells b _ h1 rfl (HG.out b cur (0, 0))
      rw [h2, HOB.out]
    case measure => simp [intOf]; omega
   ·have HJX := hdL hJx3; clear hJx3
    gi_wp2
    refine bodyPost_ret (results_none rfl _ _ _) rfl ?_
    exact ⟨⟨_, rfl⟩, .inr ⟨_, HPRE.out, HJX.out⟩⟩
  ·obtain rfl : k = ps.length := by omega
   gi_wp2
   go_end0
   have := hJs.out
   rw [List.take_length] at this
   exact ⟨⟨_, rfl⟩, .inl ⟨_, rfl, this⟩⟩
end
end Go.Proofs.YtaagkndhgicifaaGreat
