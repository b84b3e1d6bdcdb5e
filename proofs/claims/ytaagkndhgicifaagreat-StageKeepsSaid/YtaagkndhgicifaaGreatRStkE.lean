/- DERIVED. The reference's stock: Seed, Add, walked. (Printed by a program.) -/
import Derived.Test.YtaagkndhgicifaaGreatRStkD
namespace Go.Proofs.YtaagkndhgicifaaGreat
set_option maxHeartbeats 32000000
open Go.RowKit
set_option linter.unusedVariables false
set_option linter.unusedSimpArgs false
set_option maxRecDepth 100000
theorem infoRec : (Tryz.prog.info? 62).map (fun i => (i.zero, i.size, i.bytes)) = some (some (.agg #[.string ByteArray.empty, .int .i64 0, .int .i64 0, .int .i64 0, .string ByteArray.empty, .slice none 0 0, .slice none 0 0, .slice none 0 0]), 8, 128) := by kernel_rfl
theorem cells_ne {w : World} {k : Nat} {c c' : Array Value} {t t' : TypeId} {f f' : Nat × Nat} (h : w.heap[k]? = some (.cells c t f)) (h' : w.heap[k]? = some (.cells c' t' f')) (hne : t ≠ t') : False := by
 rw [h] at h'
 exact hne (Obj.cells.inj (sIj h')).2.1
theorem row_kindR {w : World} {base : Nat} {e : TypeId} {size : Nat} {v : Value} {n : Nat} {xs : List Value} (h : w.ownsRow base e size v n xs) : ∀ g, v.ownBlock = some g → ∃ cur, w.heap[g]? = some (.cells cur e (0, 0)) := fun g hg => by
 rcases h.2 with ⟨rfl, _⟩ | ⟨g', cap, cur, rfl, hbg, hgb, _⟩
 ·cases hg
 ·obtain rfl : g' = g := by simpa [Value.ownBlock] using hg
  exact ⟨cur, hgb⟩
theorem src_rec {w : World} {b : Nat} {s t : ByteArray} {x y z : Int} {a1 a2 a3 : Option Addr} {n1 c1 n2 c2 n3 c3 : Nat} {ty : TypeId} (h : w.heap[b]? = some (.cells #[.string s, .int .i64 x, .int .i64 y, .int .i64 z, .string t, .slice a1 n1 c1, .slice a2 n2 c2, .slice a3 n3 c3] ty (0, 0))) :
  Src Tryz.prog 8 23 (.slice (some ⟨b, 0, none⟩) 1 1) 1 [.string s, .int .i64 x, .int .i64 y, .int .i64 z, .string t, .slice a1 n1 c1, .slice a2 n2 c2, .slice a3 n3 c3] w :=
 Src.ofSlice _ Tryz.underlying23 ⟨b, 0, none⟩ 1 1 _ rfl (fun j u hj => by
  rw [Addr.add_lit, Nat.zero_add, cOh h]
  simpa using hj) (fun u hu => by
  simp only [List.mem_cons, List.not_mem_nil, or_false] at hu
  rcases hu with rfl | rfl | rfl | rfl | rfl | rfl | rfl | rfl <;> rfl)
def RSeedP (Z : Zone) (w : World) (st' : St) (c : Int) (e : Ending) (w' : World) : Prop := ∃ v', e = .returned (.tuple #[v', .int .i64 c]) ∧ RefAt (zPlus Z w.heap.size) w' v' st' ∧ Below w.heap.size w w'
theorem RefAt.plus {Z : Zone} {w w' : World} {v : Value} {st : St} {n : Nat} (h : RefAt Z w v st) (hb : Below w.heap.size w w') : RefAt (zPlus Z n) w' v st := h.keep ⟨fun b _ hz => .inl hz, hb.size, fun a u _ hu => bkp hb a u hu⟩
theorem zero2R (w : World) (t : TypeId) : ∃ w1, w.alloc (.cells #[.slice none 0 0, .slice none 0 0] t) = w1 ∧ Below w.heap.size w w1 ∧ w1.heap[w.heap.size]? = some (.cells #[.slice none 0 0, .slice none 0 0] t (0, 0)) ∧ w.heap.size + 1 ≤ w1.heap.size ∧ w1.heap.size ≤ w.heap.size + 1 := aBk w _ t
theorem RefAt.parts {Z : Zone} {w : World} {v1 v2 : Value} {st : St} (h : RefAt Z w (.agg #[v1, v2]) st) : PkgsAt Z w v1 st.seeds ∧ RecsAt Z w v2 st.recs := by
 obtain ⟨u1, u2, e, h1, h2⟩ := h
 obtain ⟨rfl, rfl⟩ : v1 = u1 ∧ v2 = u2 := by simpa using e
 exact ⟨h1, h2⟩
theorem rseed_end {Z : Zone} {w W : World} {st : St} {p : Pk} {a1 a2 a' : Option Addr} {n1 c1 n2 c2 c' : Nat} {xs : List Value} (h : RefAt Z w (.agg #[.slice a1 n1 c1, .slice a2 n2 c2]) st) (hb : Below w.heap.size w W) (hxs : xs = st.seeds.flatMap pkL) (hn1 : st.seeds.length = n1)
  (hrow : W.ownsRow w.heap.size 41 4 (.slice a' (n1 + 1) c') (n1 + 1) (xs ++ pkL p)) (hm : n1 + 1 ≤ 8796093022208) : RSeedP Z w ⟨st.seeds ++ [p], st.recs⟩ 0 (.returned (.tuple #[.agg #[.slice a' (n1 + 1) c', .slice a2 n2 c2], .int .i64 0])) W := by
 obtain ⟨h1, h2⟩ := h.parts
 have hl : (st.seeds ++ [p]).length = n1 + 1 := by rw [lAp, hn1]; rfl
 have hrow' : W.ownsRow w.heap.size 41 4 (.slice a' (n1 + 1) c') (n1 + 1) ((st.seeds ++ [p]).flatMap pkL) := by
  rw [List.flatMap_append, ← hxs]
  simpa using hrow
 refine ⟨_, rfl, ⟨_, _, rfl, ?_, h2.keep ⟨fun b _ hz => .inl hz, hb.size, fun a u _ hu => bkp hb a u hu⟩⟩, hb⟩
 exact (PkgsAt.of_owns hrow' hl.symm (by rw [hl]; exact hm)).keep ⟨fun b _ hz => .inr (row_base hrow' b hz).1, Nat.le_refl _, fun _ _ _ h => h⟩
theorem radd_end {Z Z2 : Zone} {w W : World} {st : St} {r : Rc} {vs : List Value} {a1 a2 a' : Option Addr} {n1 c1 n2 c2 c' : Nat} {xs : List Value} (h : RefAt Z w (.agg #[.slice a1 n1 c1, .slice a2 n2 c2]) st) (hb : Below w.heap.size w W) (hxs : RecsL Z w xs st.recs) (hn2 : st.recs.length = n2)
  (hr : RecAt Z2 w vs r) (hz2 : ∀ b, b < w.heap.size → Z2 b → Z b) (hrow : W.ownsRow w.heap.size 62 8 (.slice a' (n2 + 1) c') (n2 + 1) (xs ++ vs)) (hm : n2 + 1 ≤ 8796093022208) : RSeedP Z w ⟨st.seeds, st.recs ++ [r]⟩ 0 (.returned (.tuple #[.agg #[.slice a1 n1 c1, .slice a' (n2 + 1) c'], .int .i64 0])) W := by
 obtain ⟨h1, h2⟩ := h.parts
 have hl : (st.recs ++ [r]).length = n2 + 1 := by rw [lAp, hn2]; rfl
 have hk : Keep Z (zPlus Z w.heap.size) w W := ⟨fun b _ hz => .inl hz, hb.size, fun a u _ hu => bkp hb a u hu⟩
 have hk2 : Keep Z2 (zPlus Z w.heap.size) w W := ⟨fun b hl hz => .inl (hz2 b hl hz), hb.size, fun a u _ hu => bkp hb a u hu⟩
 rw [← hl] at hrow
 have := RecsAt.of_owns (Z := zPlus Z w.heap.size) hrow ((hxs.keep hk).snoc (hr.keep hk2)) (fun b hb => .inr hb) (by rw [hl]; exact hm)
 rw [hl] at this
 exact ⟨_, rfl, ⟨_, _, rfl, h1.keep hk, this⟩, hb⟩
theorem rseed_any (w : World) (Z : Zone) (v : Value) (st : St) (h : RefAt Z w v st) (p : Pk) (hl : p.1.length ≤ 140737488351232) (hs8 : st.seeds.length ≤ 1000) :
  Calls Tryz.prog 43 #[v, .agg #[strV p.1, .int .i64 p.2.1, .int .i64 p.2.2.1, .int .i64 p.2.2.2]] w (RSeedP Z w (st.seed p).1 (st.seed p).2) := by
 have hck := fun W (hW : Below w.heap.size w W) => rpkgB_any W p hl
 have hhs := fun W (hW : Below w.heap.size w W) => rhas2_any W Z v st (h.below hW) p
 obtain ⟨a1, c1, a2, c2, rfl, hp1, hp2⟩ := h.form
 have hsrc := fun W (hW : Below w.heap.size w W) => (hp1.below hW).src
 obtain ⟨xs, hxs⟩ : ∃ xs, xs = st.seeds.flatMap pkL := ⟨_, rfl⟩
 rw [← hxs] at hsrc
 obtain ⟨n1, hn1⟩ : ∃ n, st.seeds.length = n := ⟨_, rfl⟩
 obtain ⟨n2, hn2⟩ : ∃ n, st.recs.length = n := ⟨_, rfl⟩
 have hform := h
 rw [hn1, hn2] at hhs hform ⊢
 rw [hn1] at hsrc
 obtain ⟨T, -, hT, -, -⟩ := strV_is p.1
 rw [hT] at hck hhs ⊢
 obtain ⟨p1, hp1'⟩ : ∃ x, p.2.1 = x := ⟨_, rfl⟩
 obtain ⟨p2, hp2'⟩ : ∃ x, p.2.2.1 = x := ⟨_, rfl⟩
 obtain ⟨p3, hp3'⟩ : ∃ x, p.2.2.2 = x := ⟨_, rfl⟩
 rw [hp1', hp2', hp3'] at hck hhs ⊢
 obtain ⟨k1, hk1⟩ : ∃ R, R = pkgB p := ⟨_, rfl⟩
 obtain ⟨k2, hk2⟩ : ∃ R, R = st.has p := ⟨_, rfl⟩
 rw [← hk1] at hck; rw [← hk2] at hhs
 obtain ⟨st', hst⟩ : ∃ s, s = (st.seed p).1 := ⟨_, rfl⟩
 obtain ⟨cd, hcd⟩ : ∃ s, s = (st.seed p).2 := ⟨_, rfl⟩
 rw [← hst, ← hcd]
 obtain ⟨w0, hw0, hb0, hx0, y1, y2⟩ := aBk w #[.slice a1 n1 c1, .slice a2 n2 c2] 28
 obtain ⟨w1, hw1, hb1, hx1, y3, y4⟩ := aBk w0 #[.string T, .int .i64 p1, .int .i64 p2, .int .i64 p3] 41
 obtain ⟨w2, hw2, hb2, hx2, y5, y6⟩ := zero2R w1 28
 obtain ⟨B0, hB0⟩ : ∃ b, w.heap.size = b := ⟨_, rfl⟩
 obtain ⟨B1, hB1⟩ : ∃ b, w0.heap.size = b := ⟨_, rfl⟩
 obtain ⟨B2, hB2⟩ : ∃ b, w1.heap.size = b := ⟨_, rfl⟩
 have hb12 := hb1.trans (hb2.mono hb1.size)
 have hb02 := hb0.trans (hb12.mono hb0.size)
 have g0 := (hb12.block _ (by omega)).trans hx0
 have g1 := (hb2.block _ (by omega)).trans hx1
 rw [hB0] at g0; rw [hB1] at g1; rw [hB2] at hx2
 have HCK := hdL (hck w2 hb02); have HHS := hdL hhs; have HB := hdL hb02; have G0 := hdL g0; have G1 := hdL g1; have G2 := hdL hx2; have HSRC := hdL hsrc; have HXS := hdL hxs; have HK1 := hdL hk1; have HK2 := hdL hk2; have HST := hdL hst; have HCD := hdL hcd; have HH := hdL hform; have HT := hdL hT; have HP := hdL (And.intro hp1' (And.intro hp2' hp3')); have HN := hdL (And.intro hn1 hn2)
 have HSZ := hdL (show w.heap.size = B0 ∧ B1 = B0 + 1 ∧ B2 = B0 + 2 from by omega)
 have h8n : n1 ≤ 1000 := by omega
 obtain ⟨iR, hiR, hz0, hz1, hz2⟩ := info_parts infoPkg
 clear hck hhs hb0 hb1 hb2 hb12 hb02 hx0 hx1 hx2 g0 g1 hsrc hxs hk1 hk2 hst hcd hform h hT hp1' hp2' hp3' hn1 hn2 hp1 hp2 hl hs8 y1 y2 y3 y4 y5 y6
 obtain ⟨s0, s1⟩ := cells2 G0.out
 obtain ⟨e0, e1, e2, e3⟩ := cells4 G1.out
 obtain ⟨u0, u1⟩ := cells2 G2.out
 have uf := foh G2.out
 go_enter Tryz.func43, Tryz.ntmps43
 skip
 go_wp2_with fail
 refine HCK.out.mono ?_
 rintro e w3 ⟨rfl, h3⟩
 have G03 := hdL ((h3.block _ (loh G0.out)).trans G0.out); have G13 := hdL ((h3.block _ (loh G1.out)).trans G1.out); have G23 := hdL ((h3.block _ (loh G2.out)).trans G2.out); have HB3 := hdL (HB.out.trans (h3.mono HB.out.size))
 clear h3 s0 s1 e0 e1 e2 e3 u0 u1 uf
 obtain ⟨s0, s1⟩ := cells2 G03.out
 obtain ⟨e0, e1, e2, e3⟩ := cells4 G13.out
 obtain ⟨u0, u1⟩ := cells2 G23.out
 have uf := foh G23.out
 cases k1
 ·go_wp2_with fail
  obtain ⟨W, hW, hWx, hWc⟩ := two_setR G23.out (.slice a1 n1 c1) (.slice a2 n2 c2)
  rw [hW]
  obtain ⟨r0, r1⟩ := cells2 hWx
  refine bodyPost_ret (v := .tuple #[.agg #[.slice a1 n1 c1, .slice a2 n2 c2], .int .i64 1]) (by simp [results, Tryz.results43, go_sem, r0, r1]) rfl ?_
  obtain ⟨rfl, rfl⟩ : st' = st ∧ cd = 1 := by
   rw [HST.out, HCD.out]
   unfold St.seed
   rw [← HK1.out]
   exact ⟨rfl, rfl⟩
  have hbW : Below w.heap.size w W := HB3.out.trans (boC hWc (fun k hk => by have := HSZ.out; rw [mSg.1 hk]; omega) HB3.out.size)
  exact ⟨_, rfl, HH.out.plus hbW, hbW⟩
 ·have HHS3 := hdL (HHS.out w3 HB3.out)
  go_wp2_with fail
  refine HHS3.out.mono ?_
  rintro e w4 ⟨rfl, h4⟩
  have G04 := hdL ((h4.block _ (loh G03.out)).trans G03.out); have G14 := hdL ((h4.block _ (loh G13.out)).trans G13.out); have G24 := hdL ((h4.block _ (loh G23.out)).trans G23.out); have HB4 := hdL (HB3.out.trans (h4.mono HB3.out.size))
  clear h4 s0 s1 e0 e1 e2 e3 u0 u1 uf
  obtain ⟨s0, s1⟩ := cells2 G04.out
  obtain ⟨e0, e1, e2, e3⟩ := cells4 G14.out
  obtain ⟨u0, u1⟩ := cells2 G24.out
  have uf := foh G24.out
  cases k2
  ·by_cases h8 : n1 = 8
   ·have o1 : ((n1 : Int) == 8) = true := by simp; omega
    have H8 := hdL h8; clear h8
    go_wp2_with fail
    obtain ⟨W, hW, hWx, hWc⟩ := two_setR G24.out (.slice a1 n1 c1) (.slice a2 n2 c2)
    rw [hW]
    obtain ⟨r0, r1⟩ := cells2 hWx
    refine bodyPost_ret (v := .tuple #[.agg #[.slice a1 n1 c1, .slice a2 n2 c2], .int .i64 13]) (by simp [results, Tryz.results43, go_sem, r0, r1]) rfl ?_
    obtain ⟨rfl, rfl⟩ : st' = st ∧ cd = 13 := by
     rw [HST.out, HCD.out]
     unfold St.seed
     rw [← HK1.out, ← HK2.out, if_neg (by simp), if_neg (by simp), if_pos (by rw [HN.out.1]; exact H8.out)]
     exact ⟨rfl, rfl⟩
    have hbW : Below w.heap.size w W := HB4.out.trans (boC hWc (fun k hk => by have := HSZ.out; rw [mSg.1 hk]; omega) HB4.out.size)
    exact ⟨_, rfl, HH.out.plus hbW, hbW⟩
   ·have o1 : ((n1 : Int) == 8) = false := by simp; omega
    have hst' : st' = ⟨st.seeds ++ [p], st.recs⟩ := by
     rw [HST.out]
     unfold St.seed
     rw [← HK1.out, ← HK2.out, if_neg (by simp), if_neg (by simp), if_neg (by rw [HN.out.1]; exact h8)]
    have hcd' : cd = 0 := by
     rw [HCD.out]
     unfold St.seed
     rw [← HK1.out, ← HK2.out, if_neg (by simp), if_neg (by simp), if_neg (by rw [HN.out.1]; exact h8)]
    subst hst' hcd'
    clear h8
    go_upto_region 7 with fail
    go_cut [] (fun wx => ∃ (a' : Option Addr) (c' : Nat), Hid (wx.ownsRow w.heap.size 41 4 (.slice a' (n1 + 1) c') (n1 + 1) (xs ++ pkL p)) ∧ Hid (wx.heap[B0]? = some (.cells #[.slice a' (n1 + 1) c', .slice a2 n2 c2] 28 (0, 0))) ∧ Hid (wx.heap[B2]? = some (.cells #[.slice none 0 0, .slice none 0 0] 28 (0, 0))) ∧ Hid (Below w.heap.size w wx))
    case first =>
     refine UpV.start [(8, fun W : World => W.cell? ⟨B0, 0, none⟩ = some (.slice a1 n1 c1) ∧ W.cell? ⟨B1, 0, none⟩ = some (.string T) ∧ W.cell? ⟨B1, 1, none⟩ = some (.int .i64 p1) ∧ W.cell? ⟨B1, 2, none⟩ = some (.int .i64 p2) ∧ W.cell? ⟨B1, 3, none⟩ = some (.int .i64 p3))] (by kernel_rfl) ?_
     obtain ⟨Wd, hWd⟩ : ∃ W, W = w4.drew := ⟨_, rfl⟩
     rw [← hWd]
     have eh : w4.heap = Wd.heap := by rw [hWd]; rfl
     have g0 := G04.out; have g1 := G14.out; have g2 := G24.out
     rw [eh] at g0 g1 g2
     have G05 := hdL g0; have G15 := hdL g1; have G25 := hdL g2; have HB5 := hdL (show Below w.heap.size w Wd by rw [hWd]; exact HB4.out.drew)
     clear g0 g1 g2 eh hWd s0 s1 e0 e1 e2 e3 u0 u1 uf
     have hA0 : ∀ q ∈ ([(8, fun W : World => W.cell? ⟨B0, 0, none⟩ = some (.slice a1 n1 c1) ∧ W.cell? ⟨B1, 0, none⟩ = some (.string T) ∧ W.cell? ⟨B1, 1, none⟩ = some (.int .i64 p1) ∧ W.cell? ⟨B1, 2, none⟩ = some (.int .i64 p2) ∧ W.cell? ⟨B1, 3, none⟩ = some (.int .i64 p3))] : List (Nat × (World → Prop))), q.2 Wd := by
      intro q hq
      obtain rfl := mSg.1 hq
      exact ⟨cOh G05.out 0, cOh G15.out 0, cOh G15.out 1, cOh G15.out 2, cOh G15.out 3⟩
     refine UpV.tp 1 (v := .pointer (some ⟨B0, 0, none⟩)) rfl (Or.inl ⟨by rfl, ?_⟩) (owe_all hA0) ?_
     ·intro w hSw; first | rfl | (go_simp; done)
     try simp only [Act.put, sqZ]
     refine UpV.tk 2 8 (v := .slice a1 n1 c1) rfl (mCs ..) (Or.inl ⟨by rfl, ?_⟩) (owe_all hA0) ?_
     ·intro w hSw; obtain ⟨q0, j0, j1, j2, j3⟩ := hSw; go_simp
     try simp only [Act.put, sqZ]
     refine UpV.tk 4 8 (v := .agg #[.string T, .int .i64 p1, .int .i64 p2, .int .i64 p3]) rfl (mCs ..) (Or.inl ⟨by rfl, ?_⟩) (owe_all hA0) ?_
     ·intro w hSw; obtain ⟨q0, j0, j1, j2, j3⟩ := hSw; go_simp
     try simp only [Act.put, sqZ]
     refine UpV.two 0 5 (by kernel_rfl) rfl rfl ?_ ?_
     ·intro K hK
      obtain ⟨v6, hv6, hb6, hx6, z1, z2⟩ := aBk Wd #[] 41
      obtain ⟨gE, hgE⟩ : ∃ b, Wd.heap.size = b := ⟨_, rfl⟩
      rw [hgE] at hx6
      have G06 := hdL ((hb6.block _ (loh G05.out)).trans G05.out); have G16 := hdL ((hb6.block _ (loh G15.out)).trans G15.out); have G26 := hdL ((hb6.block _ (loh G25.out)).trans G25.out); have HB6 := hdL (HB5.out.trans (hb6.mono HB5.out.size))
      have HE6 := hdL hx6; have HGE := hdL (show w.heap.size ≤ gE from by rw [← hgE]; exact HB5.out.size); have HGE1 := hdL (show B2 < gE from by rw [← hgE]; exact loh G25.out)
      clear hb6 hx6 z1 z2
      try simp only [sqG]
      try go_simp
      try rw [hgE]
      try rw [hv6]
      refine hK.out _ _ (owe1 (fun _ => ⟨cOh G06.out 0, cOh G16.out 0, cOh G16.out 1, cOh G16.out 2, cOh G16.out 3⟩)) ?_
      clear hK K
      try simp only [Act.put, sqZ]
      refine UpV.two 3 5 (by kernel_rfl) rfl rfl ?_ ?_
      ·intro K hK
       have hemp := owns_emptyR v6 w.heap.size 41 4 HGE.out HE6.out
       refine step_append_srcs rfl (.tmp 19) (.tmp 21) 22 22 rfl w.heap.size 41 iR _ 4 40 Tryz.underlying22 hiR hz0 hz1 hz2 rfl (by decide) (.slice (some ⟨gE, 0, none⟩) 0 0) (by first | rfl | (simp [Act.eval]; done) | (simp [Act.eval, Act.put]; done)) 0 [] hemp (.slice a1 n1 c1) (by first | rfl | (simp [Act.eval]; done) | (simp [Act.eval, Act.put]; done)) n1 xs (HSRC.out v6 HB6.out) (by unfold maxLen; omega) (by omega) HB6.out.size ?_
       intro a7 c7 v7 hown hgrow _ hblk
       simp only [Nat.zero_add, List.nil_append] at hown hblk ⊢
       have hg7 : ∀ k (o : Obj), v6.heap[k]? = some o → k ≠ gE → v7.heap[k]? = some o := fun k o hk hne => (hgrow.block k (loh hk) (fun e => hne (by simpa [Value.ownBlock] using e))).trans hk
       have G07 := hdL (hg7 _ _ G06.out (by rintro rfl; exact cells_ne G06.out HE6.out (by decide))); have G17 := hdL (hg7 _ _ G16.out (fun e => by have h1 := HGE1.out; have h2 := HSZ.out; omega)); have G27 := hdL (hg7 _ _ G26.out (by rintro rfl; exact cells_ne G26.out HE6.out (by decide)))
       have HGR7 := hdL (loh G16.out)
       have HB7 := hdL (below_grownR HB6.out (v := .slice (some ⟨gE, 0, none⟩) 0 0) hgrow (fun g hg => (by simpa [Value.ownBlock] using hg : gE = g) ▸ HGE.out))
       have HR7 := hdL hown
       have HBK7 := hdL hblk
       clear hown hgrow hblk hg7 hemp
       refine hK.out _ _ (owe1 (fun _ => ⟨cOh G07.out 0, cOh G17.out 0, cOh G17.out 1, cOh G17.out 2, cOh G17.out 3⟩)) ?_
       clear hK K
       try simp only [Act.put, sqZ]
       refine UpV.one 5 (by kernel_rfl) rfl ?_
       intro K hK
       obtain ⟨v8, hv8, hb8, hx8, z1, z2⟩ := aBk v7 #[.string T, .int .i64 p1, .int .i64 p2, .int .i64 p3] 41
       obtain ⟨gS, hgS⟩ : ∃ b, v7.heap.size = b := ⟨_, rfl⟩
       rw [hgS] at hx8
       have G08 := hdL ((hb8.block _ (loh G07.out)).trans G07.out); have G18 := hdL ((hb8.block _ (loh G17.out)).trans G17.out); have G28 := hdL ((hb8.block _ (loh G27.out)).trans G27.out); have HB8 := hdL (HB7.out.trans (hb8.mono HB7.out.size))
       have HR8 := hdL (row_below HR7.out hb8)
       have HS8 := hdL hx8; have HGS := hdL (show w.heap.size ≤ gS from by rw [← hgS]; exact HB7.out.size)
       clear hb8 hx8 z1 z2
       try simp only [sqG]
       try go_simp
       try rw [hgS]
       try rw [hv8]
       refine hK.out _ _ (owe1 (fun _ => ⟨cOh G08.out 0, cOh G18.out 0, cOh G18.out 1, cOh G18.out 2, cOh G18.out 3⟩)) ?_
       clear hK K
       try simp only [Act.put, sqZ]
       refine UpV.one 6 (by kernel_rfl) rfl ?_
       intro K hK
       have hsn := src_pk (q := p) HT.out (by rw [HP.out.1, HP.out.2.1, HP.out.2.2]; exact HS8.out)
       refine step_append_srcs rfl (.tmp 22) (.tmp 24) 22 22 rfl w.heap.size 41 iR _ 4 40 Tryz.underlying22 hiR hz0 hz1 hz2 rfl (by decide) (.slice a7 n1 c7) (by first | rfl | (simp [Act.eval]; done) | (simp [Act.eval, Act.put]; done)) n1 xs HR8.out (.slice (some ⟨gS, 0, none⟩) 1 1) (by first | rfl | (simp [Act.eval]; done) | (simp [Act.eval, Act.put]; done)) 1 (pkL p) hsn (by unfold maxLen; omega) (by omega) HB8.out.size ?_
       intro a' c' v9 hown hgrow _ _
       have hrb := row_base HR8.out
       have hnb := row_kindR HR8.out
       have hg9 : ∀ k c (t : TypeId), v8.heap[k]? = some (Obj.cells c t (0, 0)) → t ≠ 41 → v9.heap[k]? = some (Obj.cells c t (0, 0)) := fun k c t hk hne => (hgrow.block k (loh hk) (fun e => by obtain ⟨cur, hc⟩ := hnb k e.symm; exact cells_ne hk hc hne)).trans hk
       have G09 := hdL (hg9 _ _ _ G08.out (by decide)); have G29 := hdL (hg9 _ _ _ G28.out (by decide))
       have hnB1 : ¬ some B1 = (Value.slice a7 n1 c7).ownBlock := fun e => by
        rcases HBK7.out with h1 | h1
        ·rw [h1] at e; have h2 := HGE1.out; have h3 := HSZ.out; simp [Value.ownBlock] at e; omega
        ·rw [h1] at e; have := sIj e; have := HGR7.out; omega
       have G19 := hdL ((hgrow.block B1 (loh G18.out) hnB1).trans G18.out)
       have HB9 := hdL (below_grownR HB8.out hgrow (fun g hg => (hrb g hg).1))
       have HR9 := hdL hown
       clear hown hgrow hg9 hrb hnb hsn hnB1
       refine hK.out _ _ (owe1 (fun _ => ⟨cOh G09.out 0, cOh G19.out 0, cOh G19.out 1, cOh G19.out 2, cOh G19.out 3⟩)) ?_
       clear hK K
       try simp only [Act.put, sqZ]
       refine UpV.tp 7 (v := .pointer (some ⟨B0, 0, none⟩)) rfl (Or.inl ⟨by rfl, ?_⟩) (owe1 (fun _ => ⟨cOh G09.out 0, cOh G19.out 0, cOh G19.out 1, cOh G19.out 2, cOh G19.out 3⟩)) ?_
       ·intro w hSw; first | rfl | (go_simp; done)
       try simp only [Act.put, sqZ]
       have s0 := cOh G09.out 0
       have sf := foh G09.out
       refine UpV.one 8 (by kernel_rfl) rfl ?_
       intro K hK
       try simp only [sqG]
       try go_simp
       refine hK.out _ _ (owe1 (fun h => by cases h)) ?_
       clear hK K
       try simp only [Act.put, sqZ]
       refine UpV.done (by kernel_rfl) ?_
       go_wp2_with fail
       go_meet
       have t0 := set_at 0 (.slice a' (n1 + 1) c') G09.out (ds := #[.slice a' (n1 + 1) c', .slice a2 n2 c2]) (by simp)
       have t2 := (bHs v9 ⟨B0, 0, none⟩ (.slice a' (n1 + 1) c') B2 (by have := HSZ.out; simp; omega)).trans G29.out
       have t3 := below_set HB9.out (show w.heap.size ≤ B0 by have := HSZ.out; omega) 0 (.slice a' (n1 + 1) c')
       refine ⟨a', c', hdL (ownsRow_keep HR9.out (fun g hg => bHs _ _ _ _ ?_)), hdL t0, hdL t2, hdL t3⟩
       obtain ⟨cur, hc⟩ := row_kindR HR9.out g hg
       intro e
       simp at e
       subst e
       exact cells_ne G09.out hc (by decide)
      ·intro K hK
       obtain ⟨v7, hv7, hb7, hx7, z1, z2⟩ := aBk v6 #[.string T, .int .i64 p1, .int .i64 p2, .int .i64 p3] 41
       obtain ⟨gS, hgS⟩ : ∃ b, v6.heap.size = b := ⟨_, rfl⟩
       rw [hgS] at hx7
       have G07 := hdL ((hb7.block _ (loh G06.out)).trans G06.out); have G17 := hdL ((hb7.block _ (loh G16.out)).trans G16.out); have G27 := hdL ((hb7.block _ (loh G26.out)).trans G26.out); have HB7 := hdL (HB6.out.trans (hb7.mono HB6.out.size))
       have HE7 := hdL ((hb7.block _ (loh HE6.out)).trans HE6.out)
       have HS7 := hdL hx7; have HGS := hdL (show w.heap.size ≤ gS from by rw [← hgS]; exact HB6.out.size)
       clear hb7 hx7 z1 z2
       try simp only [sqG]
       try go_simp
       try rw [hgS]
       try rw [hv7]
       refine hK.out _ _ (owe1 (fun _ => ⟨cOh G07.out 0, cOh G17.out 0, cOh G17.out 1, cOh G17.out 2, cOh G17.out 3⟩)) ?_
       clear hK K
       try simp only [Act.put, sqZ]
       refine UpV.one 3 (by kernel_rfl) rfl ?_
       intro K hK
       have hemp := owns_emptyR v7 w.heap.size 41 4 HGE.out HE7.out
       refine step_append_srcs rfl (.tmp 19) (.tmp 21) 22 22 rfl w.heap.size 41 iR _ 4 40 Tryz.underlying22 hiR hz0 hz1 hz2 rfl (by decide) (.slice (some ⟨gE, 0, none⟩) 0 0) (by first | rfl | (simp [Act.eval]; done) | (simp [Act.eval, Act.put]; done)) 0 [] hemp (.slice a1 n1 c1) (by first | rfl | (simp [Act.eval]; done) | (simp [Act.eval, Act.put]; done)) n1 xs (HSRC.out v7 HB7.out) (by unfold maxLen; omega) (by omega) HB7.out.size ?_
       intro a8 c8 v8 hown hgrow _ hblk
       simp only [Nat.zero_add, List.nil_append] at hown hblk ⊢
       have hg8 : ∀ k (o : Obj), v7.heap[k]? = some o → k ≠ gE → v8.heap[k]? = some o := fun k o hk hne => (hgrow.block k (loh hk) (fun e => hne (by simpa [Value.ownBlock] using e))).trans hk
       have G08 := hdL (hg8 _ _ G07.out (by rintro rfl; exact cells_ne G07.out HE7.out (by decide))); have G18 := hdL (hg8 _ _ G17.out (fun e => by have h1 := HGE1.out; have h2 := HSZ.out; omega)); have G28 := hdL (hg8 _ _ G27.out (by rintro rfl; exact cells_ne G27.out HE7.out (by decide)))
       have HGR8 := hdL (loh G17.out)
       have HB8 := hdL (below_grownR HB7.out (v := .slice (some ⟨gE, 0, none⟩) 0 0) hgrow (fun g hg => (by simpa [Value.ownBlock] using hg : gE = g) ▸ HGE.out))
       have HS8 := hdL (hg8 _ _ HS7.out (fun e => by have h1 := HS7.out; rw [e, HE7.out] at h1; simp at h1))
       have HR8 := hdL hown
       have HBK8 := hdL hblk
       clear hown hgrow hblk hg8 hemp
       refine hK.out _ _ (owe1 (fun _ => ⟨cOh G08.out 0, cOh G18.out 0, cOh G18.out 1, cOh G18.out 2, cOh G18.out 3⟩)) ?_
       clear hK K
       try simp only [Act.put, sqZ]
       refine UpV.one 6 (by kernel_rfl) rfl ?_
       intro K hK
       have hsn := src_pk (q := p) HT.out (by rw [HP.out.1, HP.out.2.1, HP.out.2.2]; exact HS8.out)
       refine step_append_srcs rfl (.tmp 22) (.tmp 24) 22 22 rfl w.heap.size 41 iR _ 4 40 Tryz.underlying22 hiR hz0 hz1 hz2 rfl (by decide) (.slice a8 n1 c8) (by first | rfl | (simp [Act.eval]; done) | (simp [Act.eval, Act.put]; done)) n1 xs HR8.out (.slice (some ⟨gS, 0, none⟩) 1 1) (by first | rfl | (simp [Act.eval]; done) | (simp [Act.eval, Act.put]; done)) 1 (pkL p) hsn (by unfold maxLen; omega) (by omega) HB8.out.size ?_
       intro a' c' v9 hown hgrow _ _
       have hrb := row_base HR8.out
       have hnb := row_kindR HR8.out
       have hg9 : ∀ k c (t : TypeId), v8.heap[k]? = some (Obj.cells c t (0, 0)) → t ≠ 41 → v9.heap[k]? = some (Obj.cells c t (0, 0)) := fun k c t hk hne => (hgrow.block k (loh hk) (fun e => by obtain ⟨cur, hc⟩ := hnb k e.symm; exact cells_ne hk hc hne)).trans hk
       have G09 := hdL (hg9 _ _ _ G08.out (by decide)); have G29 := hdL (hg9 _ _ _ G28.out (by decide))
       have hnB1 : ¬ some B1 = (Value.slice a8 n1 c8).ownBlock := fun e => by
        rcases HBK8.out with h1 | h1
        ·rw [h1] at e; have h2 := HGE1.out; have h3 := HSZ.out; simp [Value.ownBlock] at e; omega
        ·rw [h1] at e; have := sIj e; have := HGR8.out; omega
       have G19 := hdL ((hgrow.block B1 (loh G18.out) hnB1).trans G18.out)
       have HB9 := hdL (below_grownR HB8.out hgrow (fun g hg => (hrb g hg).1))
       have HR9 := hdL hown
       clear hown hgrow hg9 hrb hnb hsn hnB1
       refine hK.out _ _ (owe1 (fun _ => ⟨cOh G09.out 0, cOh G19.out 0, cOh G19.out 1, cOh G19.out 2, cOh G19.out 3⟩)) ?_
       clear hK K
       try simp only [Act.put, sqZ]
       refine UpV.tp 7 (v := .pointer (some ⟨B0, 0, none⟩)) rfl (Or.inl ⟨by rfl, ?_⟩) (owe1 (fun _ => ⟨cOh G09.out 0, cOh G19.out 0, cOh G19.out 1, cOh G19.out 2, cOh G19.out 3⟩)) ?_
       ·intro w hSw; first | rfl | (go_simp; done)
       try simp only [Act.put, sqZ]
       have s0 := cOh G09.out 0
       have sf := foh G09.out
       refine UpV.one 8 (by kernel_rfl) rfl ?_
       intro K hK
       try simp only [sqG]
       try go_simp
       refine hK.out _ _ (owe1 (fun h => by cases h)) ?_
       clear hK K
       try simp only [Act.put, sqZ]
       refine UpV.done (by kernel_rfl) ?_
       go_wp2_with fail
       go_meet
       have t0 := set_at 0 (.slice a' (n1 + 1) c') G09.out (ds := #[.slice a' (n1 + 1) c', .slice a2 n2 c2]) (by simp)
       have t2 := (bHs v9 ⟨B0, 0, none⟩ (.slice a' (n1 + 1) c') B2 (by have := HSZ.out; simp; omega)).trans G29.out
       have t3 := below_set HB9.out (show w.heap.size ≤ B0 by have := HSZ.out; omega) 0 (.slice a' (n1 + 1) c')
       refine ⟨a', c', hdL (ownsRow_keep HR9.out (fun g hg => bHs _ _ _ _ ?_)), hdL t0, hdL t2, hdL t3⟩
       obtain ⟨cur, hc⟩ := row_kindR HR9.out g hg
       intro e
       simp at e
       subst e
       exact cells_ne G09.out hc (by decide)
     ·intro K hK
      obtain ⟨v6, hv6, hb6, hx6, z1, z2⟩ := aBk Wd #[.string T, .int .i64 p1, .int .i64 p2, .int .i64 p3] 41
      obtain ⟨gS, hgS⟩ : ∃ b, Wd.heap.size = b := ⟨_, rfl⟩
      rw [hgS] at hx6
      have G06 := hdL ((hb6.block _ (loh G05.out)).trans G05.out); have G16 := hdL ((hb6.block _ (loh G15.out)).trans G15.out); have G26 := hdL ((hb6.block _ (loh G25.out)).trans G25.out); have HB6 := hdL (HB5.out.trans (hb6.mono HB5.out.size))
      have HS6 := hdL hx6; have HGS := hdL (show w.heap.size ≤ gS from by rw [← hgS]; exact HB5.out.size)
      clear hb6 hx6 z1 z2
      try simp only [sqG]
      try go_simp
      try rw [hgS]
      try rw [hv6]
      refine hK.out _ _ (owe1 (fun _ => ⟨cOh G06.out 0, cOh G16.out 0, cOh G16.out 1, cOh G16.out 2, cOh G16.out 3⟩)) ?_
      clear hK K
      try simp only [Act.put, sqZ]
      refine UpV.one 0 (by kernel_rfl) rfl ?_
      intro K hK
      obtain ⟨v7, hv7, hb7, hx7, z1, z2⟩ := aBk v6 #[] 41
      obtain ⟨gE, hgE⟩ : ∃ b, v6.heap.size = b := ⟨_, rfl⟩
      rw [hgE] at hx7
      have G07 := hdL ((hb7.block _ (loh G06.out)).trans G06.out); have G17 := hdL ((hb7.block _ (loh G16.out)).trans G16.out); have G27 := hdL ((hb7.block _ (loh G26.out)).trans G26.out); have HB7 := hdL (HB6.out.trans (hb7.mono HB6.out.size))
      have HS7 := hdL ((hb7.block _ (loh HS6.out)).trans HS6.out)
      have HE7 := hdL hx7; have HGE := hdL (show w.heap.size ≤ gE from by rw [← hgE]; exact HB6.out.size); have HGE1 := hdL (show B2 < gE from by rw [← hgE]; exact loh G26.out)
      clear hb7 hx7 z1 z2
      try simp only [sqG]
      try go_simp
      try rw [hgE]
      try rw [hv7]
      refine hK.out _ _ (owe1 (fun _ => ⟨cOh G07.out 0, cOh G17.out 0, cOh G17.out 1, cOh G17.out 2, cOh G17.out 3⟩)) ?_
      clear hK K
      try simp only [Act.put, sqZ]
      refine UpV.one 3 (by kernel_rfl) rfl ?_
      intro K hK
      have hemp := owns_emptyR v7 w.heap.size 41 4 HGE.out HE7.out
      refine step_append_srcs rfl (.tmp 19) (.tmp 21) 22 22 rfl w.heap.size 41 iR _ 4 40 Tryz.underlying22 hiR hz0 hz1 hz2 rfl (by decide) (.slice (some ⟨gE, 0, none⟩) 0 0) (by first | rfl | (simp [Act.eval]; done) | (simp [Act.eval, Act.put]; done)) 0 [] hemp (.slice a1 n1 c1) (by first | rfl | (simp [Act.eval]; done) | (simp [Act.eval, Act.put]; done)) n1 xs (HSRC.out v7 HB7.out) (by unfold maxLen; omega) (by omega) HB7.out.size ?_
      intro a8 c8 v8 hown hgrow _ hblk
      simp only [Nat.zero_add, List.nil_append] at hown hblk ⊢
      have hg8 : ∀ k (o : Obj), v7.heap[k]? = some o → k ≠ gE → v8.heap[k]? = some o := fun k o hk hne => (hgrow.block k (loh hk) (fun e => hne (by simpa [Value.ownBlock] using e))).trans hk
      have G08 := hdL (hg8 _ _ G07.out (by rintro rfl; exact cells_ne G07.out HE7.out (by decide))); have G18 := hdL (hg8 _ _ G17.out (fun e => by have h1 := HGE1.out; have h2 := HSZ.out; omega)); have G28 := hdL (hg8 _ _ G27.out (by rintro rfl; exact cells_ne G27.out HE7.out (by decide)))
      have HGR8 := hdL (loh G17.out)
      have HB8 := hdL (below_grownR HB7.out (v := .slice (some ⟨gE, 0, none⟩) 0 0) hgrow (fun g hg => (by simpa [Value.ownBlock] using hg : gE = g) ▸ HGE.out))
      have HS8 := hdL (hg8 _ _ HS7.out (fun e => by have h1 := HS7.out; rw [e, HE7.out] at h1; simp at h1))
      have HR8 := hdL hown
      have HBK8 := hdL hblk
      clear hown hgrow hblk hg8 hemp
      refine hK.out _ _ (owe1 (fun _ => ⟨cOh G08.out 0, cOh G18.out 0, cOh G18.out 1, cOh G18.out 2, cOh G18.out 3⟩)) ?_
      clear hK K
      try simp only [Act.put, sqZ]
      refine UpV.one 6 (by kernel_rfl) rfl ?_
      intro K hK
      have hsn := src_pk (q := p) HT.out (by rw [HP.out.1, HP.out.2.1, HP.out.2.2]; exact HS8.out)
      refine step_append_srcs rfl (.tmp 22) (.tmp 24) 22 22 rfl w.heap.size 41 iR _ 4 40 Tryz.underlying22 hiR hz0 hz1 hz2 rfl (by decide) (.slice a8 n1 c8) (by first | rfl | (simp [Act.eval]; done) | (simp [Act.eval, Act.put]; done)) n1 xs HR8.out (.slice (some ⟨gS, 0, none⟩) 1 1) (by first | rfl | (simp [Act.eval]; done) | (simp [Act.eval, Act.put]; done)) 1 (pkL p) hsn (by unfold maxLen; omega) (by omega) HB8.out.size ?_
      intro a' c' v9 hown hgrow _ _
      have hrb := row_base HR8.out
      have hnb := row_kindR HR8.out
      have hg9 : ∀ k c (t : TypeId), v8.heap[k]? = some (Obj.cells c t (0, 0)) → t ≠ 41 → v9.heap[k]? = some (Obj.cells c t (0, 0)) := fun k c t hk hne => (hgrow.block k (loh hk) (fun e => by obtain ⟨cur, hc⟩ := hnb k e.symm; exact cells_ne hk hc hne)).trans hk
      have G09 := hdL (hg9 _ _ _ G08.out (by decide)); have G29 := hdL (hg9 _ _ _ G28.out (by decide))
      have hnB1 : ¬ some B1 = (Value.slice a8 n1 c8).ownBlock := fun e => by
       rcases HBK8.out with h1 | h1
       ·rw [h1] at e; have h2 := HGE1.out; have h3 := HSZ.out; simp [Value.ownBlock] at e; omega
       ·rw [h1] at e; have := sIj e; have := HGR8.out; omega
      have G19 := hdL ((hgrow.block B1 (loh G18.out) hnB1).trans G18.out)
      have HB9 := hdL (below_grownR HB8.out hgrow (fun g hg => (hrb g hg).1))
      have HR9 := hdL hown
      clear hown hgrow hg9 hrb hnb hsn hnB1
      refine hK.out _ _ (owe1 (fun _ => ⟨cOh G09.out 0, cOh G19.out 0, cOh G19.out 1, cOh G19.out 2, cOh G19.out 3⟩)) ?_
      clear hK K
      try simp only [Act.put, sqZ]
      refine UpV.tp 7 (v := .pointer (some ⟨B0, 0, none⟩)) rfl (Or.inl ⟨by rfl, ?_⟩) (owe1 (fun _ => ⟨cOh G09.out 0, cOh G19.out 0, cOh G19.out 1, cOh G19.out 2, cOh G19.out 3⟩)) ?_
      ·intro w hSw; first | rfl | (go_simp; done)
      try simp only [Act.put, sqZ]
      have s0 := cOh G09.out 0
      have sf := foh G09.out
      refine UpV.one 8 (by kernel_rfl) rfl ?_
      intro K hK
      try simp only [sqG]
      try go_simp
      refine hK.out _ _ (owe1 (fun h => by cases h)) ?_
      clear hK K
      try simp only [Act.put, sqZ]
      refine UpV.done (by kernel_rfl) ?_
      go_wp2_with fail
      go_meet
      have t0 := set_at 0 (.slice a' (n1 + 1) c') G09.out (ds := #[.slice a' (n1 + 1) c', .slice a2 n2 c2]) (by simp)
      have t2 := (bHs v9 ⟨B0, 0, none⟩ (.slice a' (n1 + 1) c') B2 (by have := HSZ.out; simp; omega)).trans G29.out
      have t3 := below_set HB9.out (show w.heap.size ≤ B0 by have := HSZ.out; omega) 0 (.slice a' (n1 + 1) c')
      refine ⟨a', c', hdL (ownsRow_keep HR9.out (fun g hg => bHs _ _ _ _ ?_)), hdL t0, hdL t2, hdL t3⟩
      obtain ⟨cur, hc⟩ := row_kindR HR9.out g hg
      intro e
      simp at e
      subst e
      exact cells_ne G09.out hc (by decide)
    obtain ⟨a', c', hrow, h0, h2, hbx⟩ := hcut
    obtain ⟨s0, s1⟩ := cells2 h0.out
    obtain ⟨u0, u1⟩ := cells2 h2.out
    have uf := foh h2.out
    go_wp2_with fail
    obtain ⟨W, hW, hWx, hWc⟩ := two_setR h2.out (.slice a' (n1 + 1) c') (.slice a2 n2 c2)
    rw [hW]
    obtain ⟨r0, r1⟩ := cells2 hWx
    refine bodyPost_ret (v := .tuple #[.agg #[.slice a' (n1 + 1) c', .slice a2 n2 c2], .int .i64 0]) (by simp [results, Tryz.results43, go_sem, r0, r1]) rfl ?_
    have hbW : Below w.heap.size w W := hbx.out.trans (boC hWc (fun k hk => by have := HSZ.out; rw [mSg.1 hk]; omega) hbx.out.size)
    have hrowW := ownsRow_keep (w' := W) hrow.out (fun g hg => by
     obtain ⟨cur, hc⟩ := row_kindR hrow.out g hg
     refine hWc.block g (loh hc) (fun hm => ?_)
     rw [mSg.1 hm] at hc
     exact cells_ne h2.out hc (by decide))
    exact rseed_end HH.out hbW HXS.out HN.out.1 hrowW (by have := HN.out.1; omega)
  ·go_wp2_with fail
   obtain ⟨W, hW, hWx, hWc⟩ := two_setR G24.out (.slice a1 n1 c1) (.slice a2 n2 c2)
   rw [hW]
   obtain ⟨r0, r1⟩ := cells2 hWx
   refine bodyPost_ret (v := .tuple #[.agg #[.slice a1 n1 c1, .slice a2 n2 c2], .int .i64 11]) (by simp [results, Tryz.results43, go_sem, r0, r1]) rfl ?_
   obtain ⟨rfl, rfl⟩ : st' = st ∧ cd = 11 := by
    rw [HST.out, HCD.out]
    unfold St.seed
    rw [← HK1.out, ← HK2.out]
    exact ⟨rfl, rfl⟩
   have hbW : Below w.heap.size w W := HB4.out.trans (boC hWc (fun k hk => by have := HSZ.out; rw [mSg.1 hk]; omega) HB4.out.size)
   exact ⟨_, rfl, HH.out.plus hbW, hbW⟩
theorem radd_any (w : World) (Z : Zone) (v : Value) (st : St) (h : RefAt Z w v st) (Z2 : Zone) (vs : List Value) (r : Rc) (hr : RecAt Z2 w vs r) (hZ2 : ∀ b, b < w.heap.size → Z2 b → Z b) (hs8 : st.recs.length ≤ 1000) :
  Calls Tryz.prog 44 #[v, .agg vs.toArray] w (RSeedP Z w (st.add r).1 (st.add r).2) := by
 have hck := fun W (hW : Below w.heap.size w W) => rgoodR_any W Z2 vs r (hr.below hW)
 have hhs := fun W (hW : Below w.heap.size w W) => rhas2_any W Z v st (h.below hW) r.pkg
 obtain ⟨T, t, r1, m1, d1, r2, m2, d2, r3, m3, d3, rfl, hT, hl, -, -, -⟩ := hr.shape
 obtain ⟨a1, c1, a2, c2, rfl, hp1, hp2⟩ := h.form
 obtain ⟨xs, hxs, hsrc⟩ := hp2.listB
 obtain ⟨n1, hn1⟩ : ∃ n, st.seeds.length = n := ⟨_, rfl⟩
 obtain ⟨n2, hn2⟩ : ∃ n, st.recs.length = n := ⟨_, rfl⟩
 have hform := h
 rw [hn1, hn2] at hhs hform ⊢
 rw [hn2] at hsrc
 obtain ⟨p1, hp1'⟩ : ∃ x, r.pkg.2.1 = x := ⟨_, rfl⟩
 obtain ⟨p2, hp2'⟩ : ∃ x, r.pkg.2.2.1 = x := ⟨_, rfl⟩
 obtain ⟨p3, hp3'⟩ : ∃ x, r.pkg.2.2.2 = x := ⟨_, rfl⟩
 rw [hT] at hhs
 rw [hp1', hp2', hp3'] at hck hhs hr ⊢
 obtain ⟨k1, hk1⟩ : ∃ R, R = goodRc r := ⟨_, rfl⟩
 obtain ⟨k2, hk2⟩ : ∃ R, R = st.has r.pkg := ⟨_, rfl⟩
 rw [← hk1] at hck; rw [← hk2] at hhs
 obtain ⟨st', hst⟩ : ∃ s, s = (st.add r).1 := ⟨_, rfl⟩
 obtain ⟨cd, hcd⟩ : ∃ s, s = (st.add r).2 := ⟨_, rfl⟩
 rw [← hst, ← hcd]
 obtain ⟨w0, hw0, hb0, hx0, y1, y2⟩ := aBk w #[.slice a1 n1 c1, .slice a2 n2 c2] 28
 obtain ⟨w1, hw1, hb1, hx1, y3, y4⟩ := aBk w0 #[.string T, .int .i64 p1, .int .i64 p2, .int .i64 p3, .string t, .slice r1 m1 d1, .slice r2 m2 d2, .slice r3 m3 d3] 62
 obtain ⟨w2, hw2, hb2, hx2, y5, y6⟩ := zero2R w1 28
 obtain ⟨B0, hB0⟩ : ∃ b, w.heap.size = b := ⟨_, rfl⟩
 obtain ⟨B1, hB1⟩ : ∃ b, w0.heap.size = b := ⟨_, rfl⟩
 obtain ⟨B2, hB2⟩ : ∃ b, w1.heap.size = b := ⟨_, rfl⟩
 have hb12 := hb1.trans (hb2.mono hb1.size)
 have hb02 := hb0.trans (hb12.mono hb0.size)
 have g0 := (hb12.block _ (by omega)).trans hx0
 have g1 := (hb2.block _ (by omega)).trans hx1
 rw [hB0] at g0; rw [hB1] at g1; rw [hB2] at hx2
 have HCK := hdL (hck w2 hb02); have HHS := hdL hhs; have HB := hdL hb02; have G0 := hdL g0; have G1 := hdL g1; have G2 := hdL hx2; have HSRC := hdL hsrc; have HXS := hdL hxs; have HK1 := hdL hk1; have HK2 := hdL hk2; have HST := hdL hst; have HCD := hdL hcd; have HH := hdL hform; have HT := hdL hT; have HP := hdL (And.intro hp1' (And.intro hp2' hp3')); have HN := hdL (And.intro hn1 hn2)
 have HSZ := hdL (show w.heap.size = B0 ∧ B1 = B0 + 1 ∧ B2 = B0 + 2 from by omega)
 have h8n : n2 ≤ 1000 := by omega
 have HRC := hdL hr; have HZ2 := hdL hZ2
 obtain ⟨iR, hiR, hz0, hz1, hz2⟩ := info_parts infoRec
 clear hck hhs hb0 hb1 hb2 hb12 hb02 hx0 hx1 hx2 g0 g1 hsrc hxs hk1 hk2 hst hcd hform h hT hp1' hp2' hp3' hn1 hn2 hp1 hp2 hl hs8 y1 y2 y3 y4 y5 y6 hr hZ2
 obtain ⟨s0, s1⟩ := cells2 G0.out
 obtain ⟨e0, e1, e2, e3, e4, e5, e6, e7⟩ := cells8 G1.out
 obtain ⟨u0, u1⟩ := cells2 G2.out
 have uf := foh G2.out
 go_enter Tryz.func44, Tryz.ntmps44
 skip
 go_wp2_with fail
 refine HCK.out.mono ?_
 rintro e w3 ⟨rfl, h3⟩
 have G03 := hdL ((h3.block _ (loh G0.out)).trans G0.out); have G13 := hdL ((h3.block _ (loh G1.out)).trans G1.out); have G23 := hdL ((h3.block _ (loh G2.out)).trans G2.out); have HB3 := hdL (HB.out.trans (h3.mono HB.out.size))
 clear h3 s0 s1 e0 e1 e2 e3 e4 e5 e6 e7 u0 u1 uf
 obtain ⟨s0, s1⟩ := cells2 G03.out
 obtain ⟨e0, e1, e2, e3, e4, e5, e6, e7⟩ := cells8 G13.out
 obtain ⟨u0, u1⟩ := cells2 G23.out
 have uf := foh G23.out
 cases k1
 ·go_wp2_with fail
  obtain ⟨W, hW, hWx, hWc⟩ := two_setR G23.out (.slice a1 n1 c1) (.slice a2 n2 c2)
  rw [hW]
  obtain ⟨r0, r1⟩ := cells2 hWx
  refine bodyPost_ret (v := .tuple #[.agg #[.slice a1 n1 c1, .slice a2 n2 c2], .int .i64 1]) (by simp [results, Tryz.results44, go_sem, r0, r1]) rfl ?_
  obtain ⟨rfl, rfl⟩ : st' = st ∧ cd = 1 := by
   rw [HST.out, HCD.out]
   unfold St.add
   rw [← HK1.out]
   exact ⟨rfl, rfl⟩
  have hbW : Below w.heap.size w W := HB3.out.trans (boC hWc (fun k hk => by have := HSZ.out; rw [mSg.1 hk]; omega) HB3.out.size)
  exact ⟨_, rfl, HH.out.plus hbW, hbW⟩
 ·have HHS3 := hdL (HHS.out w3 HB3.out)
  go_wp2_with fail
  refine HHS3.out.mono ?_
  rintro e w4 ⟨rfl, h4⟩
  have G04 := hdL ((h4.block _ (loh G03.out)).trans G03.out); have G14 := hdL ((h4.block _ (loh G13.out)).trans G13.out); have G24 := hdL ((h4.block _ (loh G23.out)).trans G23.out); have HB4 := hdL (HB3.out.trans (h4.mono HB3.out.size))
  clear h4 s0 s1 e0 e1 e2 e3 e4 e5 e6 e7 u0 u1 uf
  obtain ⟨s0, s1⟩ := cells2 G04.out
  obtain ⟨e0, e1, e2, e3, e4, e5, e6, e7⟩ := cells8 G14.out
  obtain ⟨u0, u1⟩ := cells2 G24.out
  have uf := foh G24.out
  cases k2
  ·by_cases h8 : n2 = 32
   ·have o1 : ((n2 : Int) == 32) = true := by simp; omega
    have H8 := hdL h8; clear h8
    go_wp2_with fail
    obtain ⟨W, hW, hWx, hWc⟩ := two_setR G24.out (.slice a1 n1 c1) (.slice a2 n2 c2)
    rw [hW]
    obtain ⟨r0, r1⟩ := cells2 hWx
    refine bodyPost_ret (v := .tuple #[.agg #[.slice a1 n1 c1, .slice a2 n2 c2], .int .i64 13]) (by simp [results, Tryz.results44, go_sem, r0, r1]) rfl ?_
    obtain ⟨rfl, rfl⟩ : st' = st ∧ cd = 13 := by
     rw [HST.out, HCD.out]
     unfold St.add
     rw [← HK1.out, ← HK2.out, if_neg (by simp), if_neg (by simp), if_pos (by rw [HN.out.2]; exact H8.out)]
     exact ⟨rfl, rfl⟩
    have hbW : Below w.heap.size w W := HB4.out.trans (boC hWc (fun k hk => by have := HSZ.out; rw [mSg.1 hk]; omega) HB4.out.size)
    exact ⟨_, rfl, HH.out.plus hbW, hbW⟩
   ·have o1 : ((n2 : Int) == 32) = false := by simp; omega
    have hst' : st' = ⟨st.seeds, st.recs ++ [r]⟩ := by
     rw [HST.out]
     unfold St.add
     rw [← HK1.out, ← HK2.out, if_neg (by simp), if_neg (by simp), if_neg (by rw [HN.out.2]; exact h8)]
    have hcd' : cd = 0 := by
     rw [HCD.out]
     unfold St.add
     rw [← HK1.out, ← HK2.out, if_neg (by simp), if_neg (by simp), if_neg (by rw [HN.out.2]; exact h8)]
    subst hst' hcd'
    clear h8
    go_upto_region 7 with fail
    go_cut [] (fun wx => ∃ (a' : Option Addr) (c' : Nat), Hid (wx.ownsRow w.heap.size 62 8 (.slice a' (n2 + 1) c') (n2 + 1) (xs ++ [.string T, .int .i64 p1, .int .i64 p2, .int .i64 p3, .string t, .slice r1 m1 d1, .slice r2 m2 d2, .slice r3 m3 d3])) ∧ Hid (wx.heap[B0]? = some (.cells #[.slice a1 n1 c1, .slice a' (n2 + 1) c'] 28 (0, 0))) ∧ Hid (wx.heap[B2]? = some (.cells #[.slice none 0 0, .slice none 0 0] 28 (0, 0))) ∧ Hid (Below w.heap.size w wx))
    case first =>
     refine UpV.start [(8, fun W : World => W.cell? ⟨B0, 1, none⟩ = some (.slice a2 n2 c2) ∧ W.cell? ⟨B1, 0, none⟩ = some (.string T) ∧ W.cell? ⟨B1, 1, none⟩ = some (.int .i64 p1) ∧ W.cell? ⟨B1, 2, none⟩ = some (.int .i64 p2) ∧ W.cell? ⟨B1, 3, none⟩ = some (.int .i64 p3) ∧ W.cell? ⟨B1, 4, none⟩ = some (.string t) ∧ W.cell? ⟨B1, 5, none⟩ = some (.slice r1 m1 d1) ∧ W.cell? ⟨B1, 6, none⟩ = some (.slice r2 m2 d2) ∧ W.cell? ⟨B1, 7, none⟩ = some (.slice r3 m3 d3))] (by kernel_rfl) ?_
     obtain ⟨Wd, hWd⟩ : ∃ W, W = w4.drew := ⟨_, rfl⟩
     rw [← hWd]
     have eh : w4.heap = Wd.heap := by rw [hWd]; rfl
     have g0 := G04.out; have g1 := G14.out; have g2 := G24.out
     rw [eh] at g0 g1 g2
     have G05 := hdL g0; have G15 := hdL g1; have G25 := hdL g2; have HB5 := hdL (show Below w.heap.size w Wd by rw [hWd]; exact HB4.out.drew)
     clear g0 g1 g2 eh hWd s0 s1 e0 e1 e2 e3 e4 e5 e6 e7 u0 u1 uf
     have hA0 : ∀ q ∈ ([(8, fun W : World => W.cell? ⟨B0, 1, none⟩ = some (.slice a2 n2 c2) ∧ W.cell? ⟨B1, 0, none⟩ = some (.string T) ∧ W.cell? ⟨B1, 1, none⟩ = some (.int .i64 p1) ∧ W.cell? ⟨B1, 2, none⟩ = some (.int .i64 p2) ∧ W.cell? ⟨B1, 3, none⟩ = some (.int .i64 p3) ∧ W.cell? ⟨B1, 4, none⟩ = some (.string t) ∧ W.cell? ⟨B1, 5, none⟩ = some (.slice r1 m1 d1) ∧ W.cell? ⟨B1, 6, none⟩ = some (.slice r2 m2 d2) ∧ W.cell? ⟨B1, 7, none⟩ = some (.slice r3 m3 d3))] : List (Nat × (World → Prop))), q.2 Wd := by
      intro q hq
      obtain rfl := mSg.1 hq
      exact ⟨cOh G05.out 1, cOh G15.out 0, cOh G15.out 1, cOh G15.out 2, cOh G15.out 3, cOh G15.out 4, cOh G15.out 5, cOh G15.out 6, cOh G15.out 7⟩
     refine UpV.tp 1 (v := .pointer (some ⟨B0, 1, none⟩)) rfl (Or.inl ⟨by rfl, ?_⟩) (owe_all hA0) ?_
     ·intro w hSw; first | rfl | (go_simp; done)
     try simp only [Act.put, sqZ]
     refine UpV.tk 2 8 (v := .slice a2 n2 c2) rfl (mCs ..) (Or.inl ⟨by rfl, ?_⟩) (owe_all hA0) ?_
     ·intro w hSw; obtain ⟨q0, j0, j1, j2, j3, j4, j5, j6, j7⟩ := hSw; go_simp
     try simp only [Act.put, sqZ]
     refine UpV.tk 4 8 (v := .agg #[.string T, .int .i64 p1, .int .i64 p2, .int .i64 p3, .string t, .slice r1 m1 d1, .slice r2 m2 d2, .slice r3 m3 d3]) rfl (mCs ..) (Or.inl ⟨by rfl, ?_⟩) (owe_all hA0) ?_
     ·intro w hSw; obtain ⟨q0, j0, j1, j2, j3, j4, j5, j6, j7⟩ := hSw; go_simp
     try simp only [Act.put, sqZ]
     refine UpV.two 0 5 (by kernel_rfl) rfl rfl ?_ ?_
     ·intro K hK
      obtain ⟨v6, hv6, hb6, hx6, z1, z2⟩ := aBk Wd #[] 62
      obtain ⟨gE, hgE⟩ : ∃ b, Wd.heap.size = b := ⟨_, rfl⟩
      rw [hgE] at hx6
      have G06 := hdL ((hb6.block _ (loh G05.out)).trans G05.out); have G16 := hdL ((hb6.block _ (loh G15.out)).trans G15.out); have G26 := hdL ((hb6.block _ (loh G25.out)).trans G25.out); have HB6 := hdL (HB5.out.trans (hb6.mono HB5.out.size))
      have HE6 := hdL hx6; have HGE := hdL (show w.heap.size ≤ gE from by rw [← hgE]; exact HB5.out.size); have HGE1 := hdL (show B2 < gE from by rw [← hgE]; exact loh G25.out)
      clear hb6 hx6 z1 z2
      try simp only [sqG]
      try go_simp
      try rw [hgE]
      try rw [hv6]
      refine hK.out _ _ (owe1 (fun _ => ⟨cOh G06.out 1, cOh G16.out 0, cOh G16.out 1, cOh G16.out 2, cOh G16.out 3, cOh G16.out 4, cOh G16.out 5, cOh G16.out 6, cOh G16.out 7⟩)) ?_
      clear hK K
      try simp only [Act.put, sqZ]
      refine UpV.two 3 5 (by kernel_rfl) rfl rfl ?_ ?_
      ·intro K hK
       have hemp := owns_emptyR v6 w.heap.size 62 8 HGE.out HE6.out
       refine step_append_srcs rfl (.tmp 20) (.tmp 22) 23 23 rfl w.heap.size 62 iR _ 8 128 Tryz.underlying23 hiR hz0 hz1 hz2 rfl (by decide) (.slice (some ⟨gE, 0, none⟩) 0 0) (by first | rfl | (simp [Act.eval]; done) | (simp [Act.eval, Act.put]; done)) 0 [] hemp (.slice a2 n2 c2) (by first | rfl | (simp [Act.eval]; done) | (simp [Act.eval, Act.put]; done)) n2 xs (HSRC.out v6 HB6.out) (by unfold maxLen; omega) (by omega) HB6.out.size ?_
       intro a7 c7 v7 hown hgrow _ hblk
       simp only [Nat.zero_add, List.nil_append] at hown hblk ⊢
       have hg7 : ∀ k (o : Obj), v6.heap[k]? = some o → k ≠ gE → v7.heap[k]? = some o := fun k o hk hne => (hgrow.block k (loh hk) (fun e => hne (by simpa [Value.ownBlock] using e))).trans hk
       have G07 := hdL (hg7 _ _ G06.out (by rintro rfl; exact cells_ne G06.out HE6.out (by decide))); have G17 := hdL (hg7 _ _ G16.out (fun e => by have h1 := HGE1.out; have h2 := HSZ.out; omega)); have G27 := hdL (hg7 _ _ G26.out (by rintro rfl; exact cells_ne G26.out HE6.out (by decide)))
       have HGR7 := hdL (loh G16.out)
       have HB7 := hdL (below_grownR HB6.out (v := .slice (some ⟨gE, 0, none⟩) 0 0) hgrow (fun g hg => (by simpa [Value.ownBlock] using hg : gE = g) ▸ HGE.out))
       have HR7 := hdL hown
       have HBK7 := hdL hblk
       clear hown hgrow hblk hg7 hemp
       refine hK.out _ _ (owe1 (fun _ => ⟨cOh G07.out 1, cOh G17.out 0, cOh G17.out 1, cOh G17.out 2, cOh G17.out 3, cOh G17.out 4, cOh G17.out 5, cOh G17.out 6, cOh G17.out 7⟩)) ?_
       clear hK K
       try simp only [Act.put, sqZ]
       refine UpV.one 5 (by kernel_rfl) rfl ?_
       intro K hK
       obtain ⟨v8, hv8, hb8, hx8, z1, z2⟩ := aBk v7 #[.string T, .int .i64 p1, .int .i64 p2, .int .i64 p3, .string t, .slice r1 m1 d1, .slice r2 m2 d2, .slice r3 m3 d3] 62
       obtain ⟨gS, hgS⟩ : ∃ b, v7.heap.size = b := ⟨_, rfl⟩
       rw [hgS] at hx8
       have G08 := hdL ((hb8.block _ (loh G07.out)).trans G07.out); have G18 := hdL ((hb8.block _ (loh G17.out)).trans G17.out); have G28 := hdL ((hb8.block _ (loh G27.out)).trans G27.out); have HB8 := hdL (HB7.out.trans (hb8.mono HB7.out.size))
       have HR8 := hdL (row_below HR7.out hb8)
       have HS8 := hdL hx8; have HGS := hdL (show w.heap.size ≤ gS from by rw [← hgS]; exact HB7.out.size)
       clear hb8 hx8 z1 z2
       try simp only [sqG]
       try go_simp
       try rw [hgS]
       try rw [hv8]
       refine hK.out _ _ (owe1 (fun _ => ⟨cOh G08.out 1, cOh G18.out 0, cOh G18.out 1, cOh G18.out 2, cOh G18.out 3, cOh G18.out 4, cOh G18.out 5, cOh G18.out 6, cOh G18.out 7⟩)) ?_
       clear hK K
       try simp only [Act.put, sqZ]
       refine UpV.one 6 (by kernel_rfl) rfl ?_
       intro K hK
       have hsn := src_rec HS8.out
       refine step_append_srcs rfl (.tmp 23) (.tmp 25) 23 23 rfl w.heap.size 62 iR _ 8 128 Tryz.underlying23 hiR hz0 hz1 hz2 rfl (by decide) (.slice a7 n2 c7) (by first | rfl | (simp [Act.eval]; done) | (simp [Act.eval, Act.put]; done)) n2 xs HR8.out (.slice (some ⟨gS, 0, none⟩) 1 1) (by first | rfl | (simp [Act.eval]; done) | (simp [Act.eval, Act.put]; done)) 1 [.string T, .int .i64 p1, .int .i64 p2, .int .i64 p3, .string t, .slice r1 m1 d1, .slice r2 m2 d2, .slice r3 m3 d3] hsn (by unfold maxLen; omega) (by omega) HB8.out.size ?_
       intro a' c' v9 hown hgrow _ _
       have hrb := row_base HR8.out
       have hnb := row_kindR HR8.out
       have hg9 : ∀ k c (t : TypeId), v8.heap[k]? = some (Obj.cells c t (0, 0)) → t ≠ 62 → v9.heap[k]? = some (Obj.cells c t (0, 0)) := fun k c t hk hne => (hgrow.block k (loh hk) (fun e => by obtain ⟨cur, hc⟩ := hnb k e.symm; exact cells_ne hk hc hne)).trans hk
       have G09 := hdL (hg9 _ _ _ G08.out (by decide)); have G29 := hdL (hg9 _ _ _ G28.out (by decide))
       have hnB1 : ¬ some B1 = (Value.slice a7 n2 c7).ownBlock := fun e => by
        rcases HBK7.out with h1 | h1
        ·rw [h1] at e; have h2 := HGE1.out; have h3 := HSZ.out; simp [Value.ownBlock] at e; omega
        ·rw [h1] at e; have := sIj e; have := HGR7.out; omega
       have G19 := hdL ((hgrow.block B1 (loh G18.out) hnB1).trans G18.out)
       have HB9 := hdL (below_grownR HB8.out hgrow (fun g hg => (hrb g hg).1))
       have HR9 := hdL hown
       clear hown hgrow hg9 hrb hnb hsn hnB1
       refine hK.out _ _ (owe1 (fun _ => ⟨cOh G09.out 1, cOh G19.out 0, cOh G19.out 1, cOh G19.out 2, cOh G19.out 3, cOh G19.out 4, cOh G19.out 5, cOh G19.out 6, cOh G19.out 7⟩)) ?_
       clear hK K
       try simp only [Act.put, sqZ]
       refine UpV.tp 7 (v := .pointer (some ⟨B0, 1, none⟩)) rfl (Or.inl ⟨by rfl, ?_⟩) (owe1 (fun _ => ⟨cOh G09.out 1, cOh G19.out 0, cOh G19.out 1, cOh G19.out 2, cOh G19.out 3, cOh G19.out 4, cOh G19.out 5, cOh G19.out 6, cOh G19.out 7⟩)) ?_
       ·intro w hSw; first | rfl | (go_simp; done)
       try simp only [Act.put, sqZ]
       have s0 := cOh G09.out 1
       have sf := foh G09.out
       refine UpV.one 8 (by kernel_rfl) rfl ?_
       intro K hK
       try simp only [sqG]
       try go_simp
       refine hK.out _ _ (owe1 (fun h => by cases h)) ?_
       clear hK K
       try simp only [Act.put, sqZ]
       refine UpV.done (by kernel_rfl) ?_
       go_wp2_with fail
       go_meet
       have t0 := set_at 1 (.slice a' (n2 + 1) c') G09.out (ds := #[.slice a1 n1 c1, .slice a' (n2 + 1) c']) (by simp)
       have t2 := (bHs v9 ⟨B0, 1, none⟩ (.slice a' (n2 + 1) c') B2 (by have := HSZ.out; simp; omega)).trans G29.out
       have t3 := below_set HB9.out (show w.heap.size ≤ B0 by have := HSZ.out; omega) 1 (.slice a' (n2 + 1) c')
       refine ⟨a', c', hdL (ownsRow_keep HR9.out (fun g hg => bHs _ _ _ _ ?_)), hdL t0, hdL t2, hdL t3⟩
       obtain ⟨cur, hc⟩ := row_kindR HR9.out g hg
       intro e
       simp at e
       subst e
       exact cells_ne G09.out hc (by decide)
      ·intro K hK
       obtain ⟨v7, hv7, hb7, hx7, z1, z2⟩ := aBk v6 #[.string T, .int .i64 p1, .int .i64 p2, .int .i64 p3, .string t, .slice r1 m1 d1, .slice r2 m2 d2, .slice r3 m3 d3] 62
       obtain ⟨gS, hgS⟩ : ∃ b, v6.heap.size = b := ⟨_, rfl⟩
       rw [hgS] at hx7
       have G07 := hdL ((hb7.block _ (loh G06.out)).trans G06.out); have G17 := hdL ((hb7.block _ (loh G16.out)).trans G16.out); have G27 := hdL ((hb7.block _ (loh G26.out)).trans G26.out); have HB7 := hdL (HB6.out.trans (hb7.mono HB6.out.size))
       have HE7 := hdL ((hb7.block _ (loh HE6.out)).trans HE6.out)
       have HS7 := hdL hx7; have HGS := hdL (show w.heap.size ≤ gS from by rw [← hgS]; exact HB6.out.size)
       clear hb7 hx7 z1 z2
       try simp only [sqG]
       try go_simp
       try rw [hgS]
       try rw [hv7]
       refine hK.out _ _ (owe1 (fun _ => ⟨cOh G07.out 1, cOh G17.out 0, cOh G17.out 1, cOh G17.out 2, cOh G17.out 3, cOh G17.out 4, cOh G17.out 5, cOh G17.out 6, cOh G17.out 7⟩)) ?_
       clear hK K
       try simp only [Act.put, sqZ]
       refine UpV.one 3 (by kernel_rfl) rfl ?_
       intro K hK
       have hemp := owns_emptyR v7 w.heap.size 62 8 HGE.out HE7.out
       refine step_append_srcs rfl (.tmp 20) (.tmp 22) 23 23 rfl w.heap.size 62 iR _ 8 128 Tryz.underlying23 hiR hz0 hz1 hz2 rfl (by decide) (.slice (some ⟨gE, 0, none⟩) 0 0) (by first | rfl | (simp [Act.eval]; done) | (simp [Act.eval, Act.put]; done)) 0 [] hemp (.slice a2 n2 c2) (by first | rfl | (simp [Act.eval]; done) | (simp [Act.eval, Act.put]; done)) n2 xs (HSRC.out v7 HB7.out) (by unfold maxLen; omega) (by omega) HB7.out.size ?_
       intro a8 c8 v8 hown hgrow _ hblk
       simp only [Nat.zero_add, List.nil_append] at hown hblk ⊢
       have hg8 : ∀ k (o : Obj), v7.heap[k]? = some o → k ≠ gE → v8.heap[k]? = some o := fun k o hk hne => (hgrow.block k (loh hk) (fun e => hne (by simpa [Value.ownBlock] using e))).trans hk
       have G08 := hdL (hg8 _ _ G07.out (by rintro rfl; exact cells_ne G07.out HE7.out (by decide))); have G18 := hdL (hg8 _ _ G17.out (fun e => by have h1 := HGE1.out; have h2 := HSZ.out; omega)); have G28 := hdL (hg8 _ _ G27.out (by rintro rfl; exact cells_ne G27.out HE7.out (by decide)))
       have HGR8 := hdL (loh G17.out)
       have HB8 := hdL (below_grownR HB7.out (v := .slice (some ⟨gE, 0, none⟩) 0 0) hgrow (fun g hg => (by simpa [Value.ownBlock] using hg : gE = g) ▸ HGE.out))
       have HS8 := hdL (hg8 _ _ HS7.out (fun e => by have h1 := HS7.out; rw [e, HE7.out] at h1; simp at h1))
       have HR8 := hdL hown
       have HBK8 := hdL hblk
       clear hown hgrow hblk hg8 hemp
       refine hK.out _ _ (owe1 (fun _ => ⟨cOh G08.out 1, cOh G18.out 0, cOh G18.out 1, cOh G18.out 2, cOh G18.out 3, cOh G18.out 4, cOh G18.out 5, cOh G18.out 6, cOh G18.out 7⟩)) ?_
       clear hK K
       try simp only [Act.put, sqZ]
       refine UpV.one 6 (by kernel_rfl) rfl ?_
       intro K hK
       have hsn := src_rec HS8.out
       refine step_append_srcs rfl (.tmp 23) (.tmp 25) 23 23 rfl w.heap.size 62 iR _ 8 128 Tryz.underlying23 hiR hz0 hz1 hz2 rfl (by decide) (.slice a8 n2 c8) (by first | rfl | (simp [Act.eval]; done) | (simp [Act.eval, Act.put]; done)) n2 xs HR8.out (.slice (some ⟨gS, 0, none⟩) 1 1) (by first | rfl | (simp [Act.eval]; done) | (simp [Act.eval, Act.put]; done)) 1 [.string T, .int .i64 p1, .int .i64 p2, .int .i64 p3, .string t, .slice r1 m1 d1, .slice r2 m2 d2, .slice r3 m3 d3] hsn (by unfold maxLen; omega) (by omega) HB8.out.size ?_
       intro a' c' v9 hown hgrow _ _
       have hrb := row_base HR8.out
       have hnb := row_kindR HR8.out
       have hg9 : ∀ k c (t : TypeId), v8.heap[k]? = some (Obj.cells c t (0, 0)) → t ≠ 62 → v9.heap[k]? = some (Obj.cells c t (0, 0)) := fun k c t hk hne => (hgrow.block k (loh hk) (fun e => by obtain ⟨cur, hc⟩ := hnb k e.symm; exact cells_ne hk hc hne)).trans hk
       have G09 := hdL (hg9 _ _ _ G08.out (by decide)); have G29 := hdL (hg9 _ _ _ G28.out (by decide))
       have hnB1 : ¬ some B1 = (Value.slice a8 n2 c8).ownBlock := fun e => by
        rcases HBK8.out with h1 | h1
        ·rw [h1] at e; have h2 := HGE1.out; have h3 := HSZ.out; simp [Value.ownBlock] at e; omega
        ·rw [h1] at e; have := sIj e; have := HGR8.out; omega
       have G19 := hdL ((hgrow.block B1 (loh G18.out) hnB1).trans G18.out)
       have HB9 := hdL (below_grownR HB8.out hgrow (fun g hg => (hrb g hg).1))
       have HR9 := hdL hown
       clear hown hgrow hg9 hrb hnb hsn hnB1
       refine hK.out _ _ (owe1 (fun _ => ⟨cOh G09.out 1, cOh G19.out 0, cOh G19.out 1, cOh G19.out 2, cOh G19.out 3, cOh G19.out 4, cOh G19.out 5, cOh G19.out 6, cOh G19.out 7⟩)) ?_
       clear hK K
       try simp only [Act.put, sqZ]
       refine UpV.tp 7 (v := .pointer (some ⟨B0, 1, none⟩)) rfl (Or.inl ⟨by rfl, ?_⟩) (owe1 (fun _ => ⟨cOh G09.out 1, cOh G19.out 0, cOh G19.out 1, cOh G19.out 2, cOh G19.out 3, cOh G19.out 4, cOh G19.out 5, cOh G19.out 6, cOh G19.out 7⟩)) ?_
       ·intro w hSw; first | rfl | (go_simp; done)
       try simp only [Act.put, sqZ]
       have s0 := cOh G09.out 1
       have sf := foh G09.out
       refine UpV.one 8 (by kernel_rfl) rfl ?_
       intro K hK
       try simp only [sqG]
       try go_simp
       refine hK.out _ _ (owe1 (fun h => by cases h)) ?_
       clear hK K
       try simp only [Act.put, sqZ]
       refine UpV.done (by kernel_rfl) ?_
       go_wp2_with fail
       go_meet
       have t0 := set_at 1 (.slice a' (n2 + 1) c') G09.out (ds := #[.slice a1 n1 c1, .slice a' (n2 + 1) c']) (by simp)
       have t2 := (bHs v9 ⟨B0, 1, none⟩ (.slice a' (n2 + 1) c') B2 (by have := HSZ.out; simp; omega)).trans G29.out
       have t3 := below_set HB9.out (show w.heap.size ≤ B0 by have := HSZ.out; omega) 1 (.slice a' (n2 + 1) c')
       refine ⟨a', c', hdL (ownsRow_keep HR9.out (fun g hg => bHs _ _ _ _ ?_)), hdL t0, hdL t2, hdL t3⟩
       obtain ⟨cur, hc⟩ := row_kindR HR9.out g hg
       intro e
       simp at e
       subst e
       exact cells_ne G09.out hc (by decide)
     ·intro K hK
      obtain ⟨v6, hv6, hb6, hx6, z1, z2⟩ := aBk Wd #[.string T, .int .i64 p1, .int .i64 p2, .int .i64 p3, .string t, .slice r1 m1 d1, .slice r2 m2 d2, .slice r3 m3 d3] 62
      obtain ⟨gS, hgS⟩ : ∃ b, Wd.heap.size = b := ⟨_, rfl⟩
      rw [hgS] at hx6
      have G06 := hdL ((hb6.block _ (loh G05.out)).trans G05.out); have G16 := hdL ((hb6.block _ (loh G15.out)).trans G15.out); have G26 := hdL ((hb6.block _ (loh G25.out)).trans G25.out); have HB6 := hdL (HB5.out.trans (hb6.mono HB5.out.size))
      have HS6 := hdL hx6; have HGS := hdL (show w.heap.size ≤ gS from by rw [← hgS]; exact HB5.out.size)
      clear hb6 hx6 z1 z2
      try simp only [sqG]
      try go_simp
      try rw [hgS]
      try rw [hv6]
      refine hK.out _ _ (owe1 (fun _ => ⟨cOh G06.out 1, cOh G16.out 0, cOh G16.out 1, cOh G16.out 2, cOh G16.out 3, cOh G16.out 4, cOh G16.out 5, cOh G16.out 6, cOh G16.out 7⟩)) ?_
      clear hK K
      try simp only [Act.put, sqZ]
      refine UpV.one 0 (by kernel_rfl) rfl ?_
      intro K hK
      obtain ⟨v7, hv7, hb7, hx7, z1, z2⟩ := aBk v6 #[] 62
      obtain ⟨gE, hgE⟩ : ∃ b, v6.heap.size = b := ⟨_, rfl⟩
      rw [hgE] at hx7
      have G07 := hdL ((hb7.block _ (loh G06.out)).trans G06.out); have G17 := hdL ((hb7.block _ (loh G16.out)).trans G16.out); have G27 := hdL ((hb7.block _ (loh G26.out)).trans G26.out); have HB7 := hdL (HB6.out.trans (hb7.mono HB6.out.size))
      have HS7 := hdL ((hb7.block _ (loh HS6.out)).trans HS6.out)
      have HE7 := hdL hx7; have HGE := hdL (show w.heap.size ≤ gE from by rw [← hgE]; exact HB6.out.size); have HGE1 := hdL (show B2 < gE from by rw [← hgE]; exact loh G26.out)
      clear hb7 hx7 z1 z2
      try simp only [sqG]
      try go_simp
      try rw [hgE]
      try rw [hv7]
      refine hK.out _ _ (owe1 (fun _ => ⟨cOh G07.out 1, cOh G17.out 0, cOh G17.out 1, cOh G17.out 2, cOh G17.out 3, cOh G17.out 4, cOh G17.out 5, cOh G17.out 6, cOh G17.out 7⟩)) ?_
      clear hK K
      try simp only [Act.put, sqZ]
      refine UpV.one 3 (by kernel_rfl) rfl ?_
      intro K hK
      have hemp := owns_emptyR v7 w.heap.size 62 8 HGE.out HE7.out
      refine step_append_srcs rfl (.tmp 20) (.tmp 22) 23 23 rfl w.heap.size 62 iR _ 8 128 Tryz.underlying23 hiR hz0 hz1 hz2 rfl (by decide) (.slice (some ⟨gE, 0, none⟩) 0 0) (by first | rfl | (simp [Act.eval]; done) | (simp [Act.eval, Act.put]; done)) 0 [] hemp (.slice a2 n2 c2) (by first | rfl | (simp [Act.eval]; done) | (simp [Act.eval, Act.put]; done)) n2 xs (HSRC.out v7 HB7.out) (by unfold maxLen; omega) (by omega) HB7.out.size ?_
      intro a8 c8 v8 hown hgrow _ hblk
      simp only [Nat.zero_add, List.nil_append] at hown hblk ⊢
      have hg8 : ∀ k (o : Obj), v7.heap[k]? = some o → k ≠ gE → v8.heap[k]? = some o := fun k o hk hne => (hgrow.block k (loh hk) (fun e => hne (by simpa [Value.ownBlock] using e))).trans hk
      have G08 := hdL (hg8 _ _ G07.out (by rintro rfl; exact cells_ne G07.out HE7.out (by decide))); have G18 := hdL (hg8 _ _ G17.out (fun e => by have h1 := HGE1.out; have h2 := HSZ.out; omega)); have G28 := hdL (hg8 _ _ G27.out (by rintro rfl; exact cells_ne G27.out HE7.out (by decide)))
      have HGR8 := hdL (loh G17.out)
      have HB8 := hdL (below_grownR HB7.out (v := .slice (some ⟨gE, 0, none⟩) 0 0) hgrow (fun g hg => (by simpa [Value.ownBlock] using hg : gE = g) ▸ HGE.out))
      have HS8 := hdL (hg8 _ _ HS7.out (fun e => by have h1 := HS7.out; rw [e, HE7.out] at h1; simp at h1))
      have HR8 := hdL hown
      have HBK8 := hdL hblk
      clear hown hgrow hblk hg8 hemp
      refine hK.out _ _ (owe1 (fun _ => ⟨cOh G08.out 1, cOh G18.out 0, cOh G18.out 1, cOh G18.out 2, cOh G18.out 3, cOh G18.out 4, cOh G18.out 5, cOh G18.out 6, cOh G18.out 7⟩)) ?_
      clear hK K
      try simp only [Act.put, sqZ]
      refine UpV.one 6 (by kernel_rfl) rfl ?_
      intro K hK
      have hsn := src_rec HS8.out
      refine step_append_srcs rfl (.tmp 23) (.tmp 25) 23 23 rfl w.heap.size 62 iR _ 8 128 Tryz.underlying23 hiR hz0 hz1 hz2 rfl (by decide) (.slice a8 n2 c8) (by first | rfl | (simp [Act.eval]; done) | (simp [Act.eval, Act.put]; done)) n2 xs HR8.out (.slice (some ⟨gS, 0, none⟩) 1 1) (by first | rfl | (simp [Act.eval]; done) | (simp [Act.eval, Act.put]; done)) 1 [.string T, .int .i64 p1, .int .i64 p2, .int .i64 p3, .string t, .slice r1 m1 d1, .slice r2 m2 d2, .slice r3 m3 d3] hsn (by unfold maxLen; omega) (by omega) HB8.out.size ?_
      intro a' c' v9 hown hgrow _ _
      have hrb := row_base HR8.out
      have hnb := row_kindR HR8.out
      have hg9 : ∀ k c (t : TypeId), v8.heap[k]? = some (Obj.cells c t (0, 0)) → t ≠ 62 → v9.heap[k]? = some (Obj.cells c t (0, 0)) := fun k c t hk hne => (hgrow.block k (loh hk) (fun e => by obtain ⟨cur, hc⟩ := hnb k e.symm; exact cells_ne hk hc hne)).trans hk
      have G09 := hdL (hg9 _ _ _ G08.out (by decide)); have G29 := hdL (hg9 _ _ _ G28.out (by decide))
      have hnB1 : ¬ some B1 = (Value.slice a8 n2 c8).ownBlock := fun e => by
       rcases HBK8.out with h1 | h1
       ·rw [h1] at e; have h2 := HGE1.out; have h3 := HSZ.out; simp [Value.ownBlock] at e; omega
       ·rw [h1] at e; have := sIj e; have := HGR8.out; omega
      have G19 := hdL ((hgrow.block B1 (loh G18.out) hnB1).trans G18.out)
      have HB9 := hdL (below_grownR HB8.out hgrow (fun g hg => (hrb g hg).1))
      have HR9 := hdL hown
      clear hown hgrow hg9 hrb hnb hsn hnB1
      refine hK.out _ _ (owe1 (fun _ => ⟨cOh G09.out 1, cOh G19.out 0, cOh G19.out 1, cOh G19.out 2, cOh G19.out 3, cOh G19.out 4, cOh G19.out 5, cOh G19.out 6, cOh G19.out 7⟩)) ?_
      clear hK K
      try simp only [Act.put, sqZ]
      refine UpV.tp 7 (v := .pointer (some ⟨B0, 1, none⟩)) rfl (Or.inl ⟨by rfl, ?_⟩) (owe1 (fun _ => ⟨cOh G09.out 1, cOh G19.out 0, cOh G19.out 1, cOh G19.out 2, cOh G19.out 3, cOh G19.out 4, cOh G19.out 5, cOh G19.out 6, cOh G19.out 7⟩)) ?_
      ·intro w hSw; first | rfl | (go_simp; done)
      try simp only [Act.put, sqZ]
      have s0 := cOh G09.out 1
      have sf := foh G09.out
      refine UpV.one 8 (by kernel_rfl) rfl ?_
      intro K hK
      try simp only [sqG]
      try go_simp
      refine hK.out _ _ (owe1 (fun h => by cases h)) ?_
      clear hK K
      try simp only [Act.put, sqZ]
      refine UpV.done (by kernel_rfl) ?_
      go_wp2_with fail
      go_meet
      have t0 := set_at 1 (.slice a' (n2 + 1) c') G09.out (ds := #[.slice a1 n1 c1, .slice a' (n2 + 1) c']) (by simp)
      have t2 := (bHs v9 ⟨B0, 1, none⟩ (.slice a' (n2 + 1) c') B2 (by have := HSZ.out; simp; omega)).trans G29.out
      have t3 := below_set HB9.out (show w.heap.size ≤ B0 by have := HSZ.out; omega) 1 (.slice a' (n2 + 1) c')
      refine ⟨a', c', hdL (ownsRow_keep HR9.out (fun g hg => bHs _ _ _ _ ?_)), hdL t0, hdL t2, hdL t3⟩
      obtain ⟨cur, hc⟩ := row_kindR HR9.out g hg
      intro e
      simp at e
      subst e
      exact cells_ne G09.out hc (by decide)
    obtain ⟨a', c', hrow, h0, h2, hbx⟩ := hcut
    obtain ⟨s0, s1⟩ := cells2 h0.out
    obtain ⟨u0, u1⟩ := cells2 h2.out
    have uf := foh h2.out
    go_wp2_with fail
    obtain ⟨W, hW, hWx, hWc⟩ := two_setR h2.out (.slice a1 n1 c1) (.slice a' (n2 + 1) c')
    rw [hW]
    obtain ⟨r0, r1⟩ := cells2 hWx
    refine bodyPost_ret (v := .tuple #[.agg #[.slice a1 n1 c1, .slice a' (n2 + 1) c'], .int .i64 0]) (by simp [results, Tryz.results44, go_sem, r0, r1]) rfl ?_
    have hbW : Below w.heap.size w W := hbx.out.trans (boC hWc (fun k hk => by have := HSZ.out; rw [mSg.1 hk]; omega) hbx.out.size)
    have hrowW := ownsRow_keep (w' := W) hrow.out (fun g hg => by
     obtain ⟨cur, hc⟩ := row_kindR hrow.out g hg
     refine hWc.block g (loh hc) (fun hm => ?_)
     rw [mSg.1 hm] at hc
     exact cells_ne h2.out hc (by decide))
    exact radd_end HH.out hbW HXS.out HN.out.2 HRC.out HZ2.out hrowW (by have := HN.out.2; omega)
  ·go_wp2_with fail
   obtain ⟨W, hW, hWx, hWc⟩ := two_setR G24.out (.slice a1 n1 c1) (.slice a2 n2 c2)
   rw [hW]
   obtain ⟨r0, r1⟩ := cells2 hWx
   refine bodyPost_ret (v := .tuple #[.agg #[.slice a1 n1 c1, .slice a2 n2 c2], .int .i64 11]) (by simp [results, Tryz.results44, go_sem, r0, r1]) rfl ?_
   obtain ⟨rfl, rfl⟩ : st' = st ∧ cd = 11 := by
    rw [HST.out, HCD.out]
    unfold St.add
    rw [← HK1.out, ← HK2.out]
    exact ⟨rfl, rfl⟩
   have hbW : Below w.heap.size w W := HB4.out.trans (boC hWc (fun k hk => by have := HSZ.out; rw [mSg.1 hk]; omega) HB4.out.size)
   exact ⟨_, rfl, HH.out.plus hbW, hbW⟩
end Go.Proofs.YtaagkndhgicifaaGreat
