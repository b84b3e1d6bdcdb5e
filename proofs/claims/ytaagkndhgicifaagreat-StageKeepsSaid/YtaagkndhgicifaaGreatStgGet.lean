/- DERIVED. What stage.Stages answers: All, Get, Less, Made, walked. (Printed by stggetgen.py.) -/
import Derived.Test.YtaagkndhgicifaaGreatStgMem
import Derived.Test.YtaagkndhgicifaaGreatSw1
import Derived.Test.YtaagkndhgicifaaGreatRStkD
namespace Go.Proofs.YtaagkndhgicifaaGreat
set_option maxHeartbeats 32000000
open Go.RowKit Go.Shelf
set_option linter.unusedVariables false
set_option linter.unusedSimpArgs false
set_option maxRecDepth 100000
attribute [local go_sem] Oper.semAt_some
theorem ten_set {w : World} {B : Nat} {t : TypeId} {y0 y1 y2 y3 y4 y5 y6 y7 y8 y9 : Value} (h : w.heap[B]? = some (.cells #[y0, y1, y2, y3, y4, y5, y6, y7, y8, y9] t (0, 0))) (x0 x1 x2 x3 x4 x5 x6 x7 x8 x9 : Value) :
  ∃ W, ((((((((((w.setCell ⟨B, 0, none⟩ x0).setCell ⟨B, 1, none⟩ x1).setCell ⟨B, 2, none⟩ x2).setCell ⟨B, 3, none⟩ x3).setCell ⟨B, 4, none⟩ x4).setCell ⟨B, 5, none⟩ x5).setCell ⟨B, 6, none⟩ x6).setCell ⟨B, 7, none⟩ x7).setCell ⟨B, 8, none⟩ x8).setCell ⟨B, 9, none⟩ x9) = W ∧ W.heap[B]? = some (.cells #[x0, x1, x2, x3, x4, x5, x6, x7, x8, x9] t (0, 0)) ∧ Ch [B] w W := by
 have b : Ch [B] w w := Ch.refl _ _
 have s0 := set_at 0 x0 h (ds := #[x0, y1, y2, y3, y4, y5, y6, y7, y8, y9]) (by simp)
 have b0 : Ch [B] w (w.setCell ⟨B, 0, none⟩ x0) := b.setCell (p := ⟨B, 0, none⟩) (.inl (List.mem_singleton_self _)) x0
 generalize w.setCell ⟨B, 0, none⟩ x0 = w0 at s0 b0 ⊢
 have s1 := set_at 1 x1 s0 (ds := #[x0, x1, y2, y3, y4, y5, y6, y7, y8, y9]) (by simp)
 have b1 : Ch [B] w (w0.setCell ⟨B, 1, none⟩ x1) := b0.setCell (p := ⟨B, 1, none⟩) (.inl (List.mem_singleton_self _)) x1
 generalize w0.setCell ⟨B, 1, none⟩ x1 = w1 at s1 b1 ⊢
 have s2 := set_at 2 x2 s1 (ds := #[x0, x1, x2, y3, y4, y5, y6, y7, y8, y9]) (by simp)
 have b2 : Ch [B] w (w1.setCell ⟨B, 2, none⟩ x2) := b1.setCell (p := ⟨B, 2, none⟩) (.inl (List.mem_singleton_self _)) x2
 generalize w1.setCell ⟨B, 2, none⟩ x2 = w2 at s2 b2 ⊢
 have s3 := set_at 3 x3 s2 (ds := #[x0, x1, x2, x3, y4, y5, y6, y7, y8, y9]) (by simp)
 have b3 : Ch [B] w (w2.setCell ⟨B, 3, none⟩ x3) := b2.setCell (p := ⟨B, 3, none⟩) (.inl (List.mem_singleton_self _)) x3
 generalize w2.setCell ⟨B, 3, none⟩ x3 = w3 at s3 b3 ⊢
 have s4 := set_at 4 x4 s3 (ds := #[x0, x1, x2, x3, x4, y5, y6, y7, y8, y9]) (by simp)
 have b4 : Ch [B] w (w3.setCell ⟨B, 4, none⟩ x4) := b3.setCell (p := ⟨B, 4, none⟩) (.inl (List.mem_singleton_self _)) x4
 generalize w3.setCell ⟨B, 4, none⟩ x4 = w4 at s4 b4 ⊢
 have s5 := set_at 5 x5 s4 (ds := #[x0, x1, x2, x3, x4, x5, y6, y7, y8, y9]) (by simp)
 have b5 : Ch [B] w (w4.setCell ⟨B, 5, none⟩ x5) := b4.setCell (p := ⟨B, 5, none⟩) (.inl (List.mem_singleton_self _)) x5
 generalize w4.setCell ⟨B, 5, none⟩ x5 = w5 at s5 b5 ⊢
 have s6 := set_at 6 x6 s5 (ds := #[x0, x1, x2, x3, x4, x5, x6, y7, y8, y9]) (by simp)
 have b6 : Ch [B] w (w5.setCell ⟨B, 6, none⟩ x6) := b5.setCell (p := ⟨B, 6, none⟩) (.inl (List.mem_singleton_self _)) x6
 generalize w5.setCell ⟨B, 6, none⟩ x6 = w6 at s6 b6 ⊢
 have s7 := set_at 7 x7 s6 (ds := #[x0, x1, x2, x3, x4, x5, x6, x7, y8, y9]) (by simp)
 have b7 : Ch [B] w (w6.setCell ⟨B, 7, none⟩ x7) := b6.setCell (p := ⟨B, 7, none⟩) (.inl (List.mem_singleton_self _)) x7
 generalize w6.setCell ⟨B, 7, none⟩ x7 = w7 at s7 b7 ⊢
 have s8 := set_at 8 x8 s7 (ds := #[x0, x1, x2, x3, x4, x5, x6, x7, x8, y9]) (by simp)
 have b8 : Ch [B] w (w7.setCell ⟨B, 8, none⟩ x8) := b7.setCell (p := ⟨B, 8, none⟩) (.inl (List.mem_singleton_self _)) x8
 generalize w7.setCell ⟨B, 8, none⟩ x8 = w8 at s8 b8 ⊢
 have s9 := set_at 9 x9 s8 (ds := #[x0, x1, x2, x3, x4, x5, x6, x7, x8, x9]) (by simp)
 have b9 : Ch [B] w (w8.setCell ⟨B, 9, none⟩ x9) := b8.setCell (p := ⟨B, 9, none⟩) (.inl (List.mem_singleton_self _)) x9
 generalize w8.setCell ⟨B, 9, none⟩ x9 = w9 at s9 b9 ⊢
 exact ⟨w9, rfl, s9, b9⟩
structure EntLet (x : Ent) (S T : ByteArray) (p1 p2 p3 sg t1 t2 t3 : Int) (n : Nat) : Prop where
 s : strV x.pkg.1 = .string S
 t : strV x.choice.1.1 = .string T
 p : p1 = x.pkg.2.1 ∧ p2 = x.pkg.2.2.1 ∧ p3 = x.pkg.2.2.2
 g : sg = x.stage
 c : t1 = x.choice.1.2.1 ∧ t2 = x.choice.1.2.2.1 ∧ t3 = x.choice.1.2.2.2
 n : n = x.choice.2.length
theorem ent_let (x : Ent) : ∃ S T p1 p2 p3 sg t1 t2 t3 n, EntLet x S T p1 p2 p3 sg t1 t2 t3 n := by
 obtain ⟨S, -, hS, -, -⟩ := strV_is x.pkg.1
 obtain ⟨T, -, hT, -, -⟩ := strV_is x.choice.1.1
 exact ⟨S, T, _, _, _, _, _, _, _, _, hS, hT, ⟨rfl, rfl, rfl⟩, rfl, ⟨rfl, rfl, rfl⟩, rfl⟩
theorem EntLet.list {x : Ent} {S T : ByteArray} {p1 p2 p3 sg t1 t2 t3 : Int} {n : Nat} (h : EntLet x S T p1 p2 p3 sg t1 t2 t3 n) (a : Option Addr) (c : Nat) : entL (x, (a, c)) = [.string S, .int .i64 p1, .int .i64 p2, .int .i64 p3, .int .i64 sg, .string T, .int .i64 t1, .int .i64 t2, .int .i64 t3, .slice a n c] := by
 unfold entL withV
 dsimp only
 rw [h.s, h.t, ← h.p.1, ← h.p.2.1, ← h.p.2.2, ← h.g, ← h.c.1, ← h.c.2.1, ← h.c.2.2, ← h.n]
theorem EntLet.arr {x : Ent} {S T : ByteArray} {p1 p2 p3 sg t1 t2 t3 : Int} {n : Nat} (h : EntLet x S T p1 p2 p3 sg t1 t2 t3 n) (a : Option Addr) (c : Nat) : (entL (x, (a, c))).toArray = #[.string S, .int .i64 p1, .int .i64 p2, .int .i64 p3, .int .i64 sg, .string T, .int .i64 t1, .int .i64 t2, .int .i64 t3, .slice a n c] := by rw [h.list]
theorem EntLet.pkg {x : Ent} {S T : ByteArray} {p1 p2 p3 sg t1 t2 t3 : Int} {n : Nat} (h : EntLet x S T p1 p2 p3 sg t1 t2 t3 n) : x.pkg = (x.pkg.1, p1, p2, p3) := by rw [h.p.1, h.p.2.1, h.p.2.2]
theorem clonepk_any (w : World) (Z : Zone) (v : Value) (ps : List Pk) (h : PkgsAt Z w v ps) (hl : ps.length ≤ 1000000) :
  Calls Tryz.prog 53 #[v] w (fun e w' => ∃ a c, e = .returned (.slice a ps.length c) ∧ PRow w.heap.size w' (.slice a ps.length c, ps) ∧ Below w.heap.size w w') := by
 have hq := fun (w : World) (a : Option Addr) (n c : Nat) => Lib.run_eql_slice_nil (P := Tryz.prog) w 22 41 a n c 0 0 Tryz.underlying22
 have h0 := h
 obtain ⟨a, c, rfl, hb, hc⟩ := h0
 cases a with
 | none =>
  obtain ⟨h1, rfl⟩ := hb.nil rfl
  obtain rfl : ps = [] := eN0 h1
  clear h hb h1 hc hl
  go_enter Tryz.func53, Tryz.ntmps53
  go_wp2
  go_ret
  exact ⟨none, 0, rfl, PRow.nil _ _, Below.refl _ _⟩
 | some ad =>
  have hb1 : Below w.heap.size w (w.alloc (.cells #[] 41)) := (Below.refl _ w).alloc (Nat.le_refl _) _
  have hsrc := PkgsAt.src (h.below hb1)
  have hmax := hl
  obtain ⟨i0, hi, hz0, hz1, hz2⟩ := info_parts infoPkg
  have HB1 := hdL hb1
  obtain ⟨n, hn⟩ : ∃ n, n = ps.length := ⟨_, rfl⟩
  rw [← hn] at hsrc hmax ⊢
  have HN := hdL hn
  clear h hb1 hb hn hc hl
  go_enter Tryz.func53, Tryz.ntmps53
  go_wp2_with (at_builtin; refine wpList_append_srcs rfl (.tmp 5) (.tmp 6) 22 22 rfl w.heap.size 41 i0 _ 4 40 Tryz.underlying22 hi hz0 hz1 hz2 rfl (by decide) (.slice (some ⟨w.heap.size, 0, none⟩) 0 0) rfl 0 [] (owns_none w 41 4 (by decide)) (.slice (some ad) n c) rfl _ _ hsrc (by unfold maxLen; omega) (by omega) (by simp) ?_; intro a' c' w' hown hgrow hnil _; simp only [Nat.zero_add, List.nil_append] at hown)
  go_wp2
  go_ret
  exact ⟨a', c', rfl, by unfold PRow; dsimp only; rw [← HN.out]; exact ownsC_of hown, HB1.out.grown hgrow HB1.out.size (fun k e => Nat.le_of_eq (show w.heap.size = k from sIj e))⟩
theorem copied_any (w : World) (Z : Zone) (x : Ent) (a : Option Addr) (c : Nat) (h : PkgsAt Z w (.slice a x.choice.2.length c) x.choice.2) (hl : x.choice.2.length ≤ 1000000) :
  Calls Tryz.prog 49 #[.agg (entL (x, (a, c))).toArray] w (fun e w' => ∃ a' c', e = .returned (.agg (entL (x, (a', c'))).toArray) ∧ PRow w.heap.size w' (.slice a' x.choice.2.length c', x.choice.2) ∧ Below w.heap.size w w') := by
 obtain ⟨S, T, p1, p2, p3, sg, t1, t2, t3, n, hx⟩ := ent_let x
 rw [hx.arr]
 have hcl := fun W (hW : Below w.heap.size w W) => clonepk_any W Z _ _ (h.below hW) hl
 rw [← hx.n] at hcl hl ⊢
 have HX := hdL hx; have HCL := hdL hcl
 clear hx hcl h
 obtain ⟨w1, hw1, hb1, hx1, y1, y2⟩ := aBk w #[.string S, .int .i64 p1, .int .i64 p2, .int .i64 p3, .int .i64 sg, .string T, .int .i64 t1, .int .i64 t2, .int .i64 t3, .slice a n c] 45
 obtain ⟨w2, hw2, hb2, hx2, y3, y4⟩ := aBk w1 #[.string ⟨#[]⟩, .int .i64 0, .int .i64 0, .int .i64 0, .int .i64 0, .string ⟨#[]⟩, .int .i64 0, .int .i64 0, .int .i64 0, .slice none 0 0] 45
 obtain ⟨b1, hb1e⟩ : ∃ b, w.heap.size = b := ⟨_, rfl⟩
 obtain ⟨b2, hb2e⟩ : ∃ b, w1.heap.size = b := ⟨_, rfl⟩
 have hb12 := hb1.trans (hb2.mono hb1.size)
 have g1 := (hb2.block _ (by omega)).trans hx1
 rw [hb1e] at g1; rw [hb2e] at hx2
 have k9 := cOh g1 9
 have HB := hdL hb12; have G1 := hdL g1; have G2 := hdL hx2; have HSZ := hdL (show w.heap.size ≤ b1 ∧ b1 < b2 ∧ b2 < w2.heap.size from by omega)
 clear hb1 hb2 hb12 g1 hx1 hx2 y1 y2 y3 y4
 go_enter Tryz.func49, Tryz.ntmps49
 go_wp2_with fail
 refine (HCL.out _ HB.out).mono ?_
 rintro e w3 ⟨a', c', rfl, hr, h3⟩
 have g1 := (h3.block _ (loh G1.out)).trans G1.out
 have g2 := (h3.block _ (loh G2.out)).trans G2.out
 have s9 := set_at 9 (.slice a' n c') g1 (ds := #[.string S, .int .i64 p1, .int .i64 p2, .int .i64 p3, .int .i64 sg, .string T, .int .i64 t1, .int .i64 t2, .int .i64 t3, .slice a' n c']) (by simp)
 obtain ⟨w4, hw4⟩ : ∃ W, w3.setCell ⟨b1, 9, none⟩ (.slice a' n c') = W := ⟨_, rfl⟩
 have hc4 : Ch [b1] w3 w4 := by rw [← hw4]; exact (Ch.refl [b1] w3).setCell (p := ⟨b1, 9, none⟩) (.inl (List.mem_singleton_self _)) _
 rw [hw4] at s9
 have g2' := (hc4.block _ (loh g2) (fun hm => by have := mSg.1 hm; have := HSZ.out; omega)).trans g2
 obtain ⟨w5, hw5, hx5, hc5⟩ := ten_set g2' (.string S) (.int .i64 p1) (.int .i64 p2) (.int .i64 p3) (.int .i64 sg) (.string T) (.int .i64 t1) (.int .i64 t2) (.int .i64 t3) (.slice a' n c')
 have m9 := cOh g1 9
 have mf := foh g1
 have HR := hdL hr; have H3 := hdL h3; have HC4 := hdL hc4; have S9 := hdL s9; have G2x := hdL g2'; have HX5 := hdL hx5; have HC5 := hdL hc5; have HW5 := hdL hw5
 clear hr h3 hc4 g2 hx5 hc5 hw5 k9
 go_upto_region 2 with fail
 try rw [hw4]
 clear m9 mf g1 hw4
 obtain ⟨k0, k1, k2, k3, k4, k5, k6, k7, k8, k9⟩ := cells10 S9.out
 clear s9
 obtain ⟨z0, z1, z2, z3, z4, z5, z6, z7, z8, z9⟩ := cells10 G2x.out
 have zf := foh G2x.out
 clear g2'
 go_wp2_with fail
 try rw [HW5.out]
 obtain ⟨r0, r1, r2, r3, r4, r5, r6, r7, r8, r9⟩ := cells10 HX5.out
 have hrow := HR.out
 refine bodyPost_ret (v := .agg #[.string S, .int .i64 p1, .int .i64 p2, .int .i64 p3, .int .i64 sg, .string T, .int .i64 t1, .int .i64 t2, .int .i64 t3, .slice a' n c']) (by simp [results, Tryz.results49, go_sem, r0, r1, r2, r3, r4, r5, r6, r7, r8, r9]) rfl ?_
 refine ⟨a', c', by rw [HX.out.arr], ?_, ?_⟩
 ·refine ownsC_keep (ownsC_mono hrow (Nat.le_trans HB.out.size (Nat.le_refl _))) (fun g hg => ?_)
  obtain ⟨hge, cur, hc⟩ := oCk hrow hg
  have h1 := loh hc
  have hz := HSZ.out
  exact (HC5.out.block g (Nat.lt_of_lt_of_le h1 HC4.out.size) (fun hm => by have := mSg.1 hm; omega)).trans (HC4.out.block g h1 (fun hm => by have := mSg.1 hm; omega))
 ·have hz := HSZ.out
  have hA := HB.out.trans (H3.out.mono HB.out.size)
  have hB := hA.trans (boC HC4.out (fun k hk => by rw [mSg.1 hk]; exact hz.1) hA.size)
  exact hB.trans (boC HC5.out (fun k hk => by rw [mSg.1 hk]; omega) hB.size)
def ent0E : Ent := ⟨pk0, 0, ch0⟩
def getE (L : List Ent) (p : Pk) : Ent × Bool := match L.find? (fun x => decide (x.pkg = p)) with
 | some x => (x, true)
 | none => (ent0E, false)
def GetP (L : List Ent) (p : Pk) (w : World) (e : Ending) (w' : World) : Prop := Below w.heap.size w w' ∧ ∃ a c, e = .returned (.tuple #[.agg (entL ((getE L p).1, (a, c))).toArray, .bool (getE L p).2]) ∧ PRow w.heap.size w' (.slice a (getE L p).1.choice.2.length c, (getE L p).1.choice.2)
theorem getf_any (w : World) (x : EV) (B : Nat) (q : Pk) (hB : w.heap[B]? = some (.cells (pkL q).toArray 41 (0, 0))) :
  Calls Tryz.prog 65 #[.agg (entL x).toArray, .pointer (some ⟨B, 0, none⟩)] w (fun e w' => e = .returned (.bool (decide (x.1.pkg = q))) ∧ Below w.heap.size w w') := by
 obtain ⟨S, T, p1, p2, p3, sg, t1, t2, t3, n, hx⟩ := ent_let x.1
 obtain ⟨y, a, c⟩ := x
 dsimp only at hx ⊢
 rw [hx.arr]
 obtain ⟨U, -, hU, -, -⟩ := strV_is q.1
 have heq := eqPk2 y.pkg q hx.s hU
 rw [← hx.p.1, ← hx.p.2.1, ← hx.p.2.2] at heq
 obtain ⟨u1, hu1⟩ : ∃ z, z = q.2.1 := ⟨_, rfl⟩
 obtain ⟨u2, hu2⟩ : ∃ z, z = q.2.2.1 := ⟨_, rfl⟩
 obtain ⟨u3, hu3⟩ : ∃ z, z = q.2.2.2 := ⟨_, rfl⟩
 unfold pkL at hB
 rw [hU, ← hu1, ← hu2, ← hu3] at hB
 rw [← hu1, ← hu2, ← hu3] at heq
 obtain ⟨R, hR⟩ : ∃ R, R = decide (y.pkg = q) := ⟨_, rfl⟩
 rw [← hR] at heq ⊢
 obtain ⟨w1, hw1, hb1, hx1, _, _⟩ := aBk w #[.string S, .int .i64 p1, .int .i64 p2, .int .i64 p3, .int .i64 sg, .string T, .int .i64 t1, .int .i64 t2, .int .i64 t3, .slice a n c] 45
 have hB1 := (hb1.block _ (loh hB)).trans hB
 obtain ⟨g0, g1, g2, g3⟩ := cells4 hx1
 obtain ⟨e0, e1, e2, e3⟩ := cells4 hB1
 have HB := hdL hb1
 clear hx hU hu1 hu2 hu3 hR hB hB1 hb1 hx1
 go_enter Tryz.func65, Tryz.ntmps65
 go_wp2
 go_ret
 exact ⟨rfl, HB.out⟩
theorem sidx_any (w : World) (Z : Zone) (v : Value) (es : List EV) (h : EntsAt Z w v es) (B : Nat) (q : Pk) (hB : w.heap[B]? = some (.cells (pkL q).toArray 41 (0, 0))) :
  Calls Tryz.prog 64 #[v, .func (.func 65) #[] #[.pointer (some ⟨B, 0, none⟩)]] w (fun e w' => (∃ i : Int, e = .returned (.int .i64 i) ∧ ((i = -1 ∧ (es.map Prod.fst).find? (fun x => decide (x.pkg = q)) = none) ∨ ∃ k x, i = ((k : Nat) : Int) ∧ es[k]? = some x ∧ (es.map Prod.fst).find? (fun x => decide (x.pkg = q)) = some x.1)) ∧ Below w.heap.size w w') := by
 obtain ⟨a, c, rfl, hb, -⟩ := id h
 obtain ⟨n, hnn⟩ : ∃ n, n = es.length := ⟨_, rfl⟩
 rw [← hnn] at h hb ⊢
 have hnl : n ≤ 8796093022208 := hb.max
 have HN := hdL hnn; have HC := hdL h; have HQ := hdL hB
 clear hnn h hb hB
 go_enter Tryz.func64, Tryz.ntmps64
 go_wp2_with fail
 go_loopw [8] (fun x wr => ∃ k : Nat, x = .int .i64 k ∧ k ≤ n ∧ Hid ((es.map Prod.fst).find? (fun x => decide (x.pkg = q)) = ((es.map Prod.fst).drop k).find? (fun x => decide (x.pkg = q))) ∧ Hid (Below w.heap.size w wr)) (fun x _ => n - (intOf x).toNat)
 case atStart => exact ⟨0, rfl, Nat.zero_le _, rfl, Below.refl _ _⟩
 case round =>
  obtain ⟨k, rfl, hkn, hno, hbw⟩ := hrel
  by_cases hlt : k < n
  ·obtain ⟨x, hp⟩ : ∃ x, es[k]? = some x := ⟨_, gEg (by rw [← HN.out]; exact hlt)⟩
   obtain ⟨b, o, S', T', rfl, hS', hT', -, c0, c1, c2, c3, c4, c5, c6, c7, c8, c9⟩ := (HC.out.below hbw.out).cells hp
   have hcl := getf_any wr x B q ((hbw.out.block _ (loh HQ.out)).trans HQ.out)
   have hp2 : (es.map Prod.fst)[k]? = some x.1 := by rw [List.getElem?_map, hp]; rfl
   have hd : (es.map Prod.fst).drop k = x.1 :: (es.map Prod.fst).drop (k + 1) := by
    rw [List.drop_eq_getElem_cons (gEs.1 hp2).1, (gEs.1 hp2).2]
   have hno' := hno.out
   rw [hd, List.find?_cons] at hno'
   obtain ⟨S, T, p1, p2, p3, sg, t1, t2, t3, n9, hl⟩ := ent_let x.1
   obtain rfl : S' = S := by rw [hl.s] at hS'; injection hS' with hS'; exact hS'.symm
   obtain rfl : T' = T := by rw [hl.t] at hT'; injection hT' with hT'; exact hT'.symm
   rw [← hl.p.1] at c1; rw [← hl.p.2.1] at c2; rw [← hl.p.2.2] at c3; rw [← hl.g] at c4; rw [← hl.c.1] at c6; rw [← hl.c.2.1] at c7; rw [← hl.c.2.2] at c8; rw [← hl.n] at c9
   have harr := hl.arr x.2.1 x.2.2
   have hxe : (x.1, (x.2.1, x.2.2)) = x := rfl
   rw [hxe] at harr
   rw [harr] at hcl
   obtain ⟨ax, hax⟩ : ∃ y, y = x.2.1 := ⟨_, rfl⟩
   obtain ⟨cx, hcx⟩ : ∃ y, y = x.2.2 := ⟨_, rfl⟩
   rw [← hax, ← hcx] at c9 hcl
   have HP := hdL hp
   clear hp hp2 hd hS' hT' hl harr hxe hax hcx
   cases hq : decide (x.1.pkg = q)
   ·rw [hq] at hcl hno'
    have HCL := hdL hcl; have HNO := hdL hno'
    clear hcl hq hno'
    go_wp2_with fail
    refine HCL.out.mono ?_
    rintro e w3 ⟨rfl, h3⟩
    have H3 := hdL (hbw.out.trans (h3.mono hbw.out.size))
    clear h3
    go_wp2_with fail
    go_roundw
    case rel => exact ⟨k + 1, by go_num, hlt, HNO, H3⟩
    case measure => simp [intOf]; omega
   ·rw [hq] at hcl hno'
    have HCL := hdL hcl; have HNO := hdL hno'
    clear hcl hq hno'
    go_wp2_with fail
    refine HCL.out.mono ?_
    rintro e w3 ⟨rfl, h3⟩
    have H3 := hdL (hbw.out.trans (h3.mono hbw.out.size))
    clear h3
    go_wp2_with fail
    go_ret
    exact ⟨⟨k, rfl, .inr ⟨k, _, rfl, HP.out, HNO.out⟩⟩, H3.out⟩
  ·obtain rfl : k = n := by omega
   have HY := hdL (show (es.map Prod.fst).find? (fun x => decide (x.pkg = q)) = none by
    rw [hno.out, List.drop_of_length_le (by rw [List.length_map, ← HN.out]; omega)]; rfl)
   go_wp2_with fail
   go_ret
   exact ⟨⟨-1, rfl, .inl ⟨rfl, HY.out⟩⟩, hbw.out⟩
theorem getP_zero {L : List Ent} {p : Pk} {w w' : World} (hn : getE L p = (ent0E, false)) (hb : Below w.heap.size w w') : GetP L p w (.returned (.tuple #[.agg #[.string ⟨#[]⟩, .int .i64 0, .int .i64 0, .int .i64 0, .int .i64 0, .string ⟨#[]⟩, .int .i64 0, .int .i64 0, .int .i64 0, .slice none 0 0], .bool false])) w' := by
 refine ⟨hb, none, 0, ?_, ?_⟩
 ·rw [hn]; rfl
 ·rw [hn]; exact PRow.nil _ _
theorem sget_any (w : World) (Z : Zone) (Tb : Nat) (es : List EV) (l : List Pk) (m : Int) (h : StgAt Z w Tb es l m) (p : Pk) :
  Calls Tryz.prog 30 #[.pointer (some ⟨Tb, 0, none⟩), .agg #[strV p.1, .int .i64 p.2.1, .int .i64 p.2.2.1, .int .i64 p.2.2.2]] w (GetP (es.map Prod.fst) p w) := by
 obtain ⟨P, -, hP, -, -⟩ := strV_is p.1
 obtain ⟨u1, hu1⟩ : ∃ z, z = p.2.1 := ⟨_, rfl⟩
 obtain ⟨u2, hu2⟩ : ∃ z, z = p.2.2.1 := ⟨_, rfl⟩
 obtain ⟨u3, hu3⟩ : ∃ z, z = p.2.2.2 := ⟨_, rfl⟩
 have hpl : (pkL p).toArray = #[.string P, .int .i64 u1, .int .i64 u2, .int .i64 u3] := by unfold pkL; rw [hP, ← hu1, ← hu2, ← hu3]
 rw [hP, ← hu1, ← hu2, ← hu3]
 obtain ⟨w1, hw1, hb1, hx1, y1, y2⟩ := aBk w #[.string P, .int .i64 u1, .int .i64 u2, .int .i64 u3] 41
 obtain ⟨w2, hw2, hb2, hx2, y3, y4⟩ := aBk w1 #[.string ⟨#[]⟩, .int .i64 0, .int .i64 0, .int .i64 0, .int .i64 0, .string ⟨#[]⟩, .int .i64 0, .int .i64 0, .int .i64 0, .slice none 0 0] 45
 obtain ⟨b1, hb1e⟩ : ∃ b, w.heap.size = b := ⟨_, rfl⟩
 obtain ⟨b2, hb2e⟩ : ∃ b, w1.heap.size = b := ⟨_, rfl⟩
 have hb12 := hb1.trans (hb2.mono hb1.size)
 have g1 := (hb2.block _ (by omega)).trans hx1
 rw [hb1e] at g1; rw [hb2e] at hx2
 have h2 := h.below hb12
 obtain ⟨hz, hfew, aL, cL, al, cl, k0, k1, k2, hes, -⟩ := h2
 obtain ⟨ne, hne⟩ : ∃ n, n = es.length := ⟨_, rfl⟩
 rw [← hne] at hes k0
 have hix := sidx_any w2 Z _ es hes b1 p (by rw [hpl]; exact g1)
 have HIX := hdL hix; have HES := hdL hes; have HB := hdL hb12; have G2 := hdL hx2; have HFEW := hdL hfew; have HNE := hdL hne
 have HSZ := hdL (show w.heap.size ≤ b1 ∧ b1 < b2 ∧ b2 < w2.heap.size from by omega)
 clear h hP hu1 hu2 hu3 hpl hb1 hb2 hb12 hx1 hx2 g1 hz hes hix hfew hne k1 k2 y1 y2 y3 y4
 go_enter Tryz.func30, Tryz.ntmps30
 go_wp2_with fail
 refine HIX.out.mono ?_
 rintro e w3 ⟨⟨i, rfl, hi⟩, h3⟩
 have k3 := bkp h3 _ _ k0
 have g3 := (h3.block _ (loh G2.out)).trans G2.out
 rcases hi with ⟨rfl, hno⟩ | ⟨k, x, rfl, hx, hfi⟩
 ·obtain ⟨w5, hw5, hx5, hc5⟩ := ten_set g3 (.string ⟨#[]⟩) (.int .i64 0) (.int .i64 0) (.int .i64 0) (.int .i64 0) (.string ⟨#[]⟩) (.int .i64 0) (.int .i64 0) (.int .i64 0) (.slice none 0 0)
  have hge : getE (es.map Prod.fst) p = (ent0E, false) := by unfold getE; rw [hno]
  obtain ⟨z0, z1, z2, z3, z4, z5, z6, z7, z8, z9⟩ := cells10 g3
  have zf := foh g3
  have HGE := hdL hge; have H3 := hdL h3; have HX5 := hdL hx5; have HC5 := hdL hc5
  clear hno hge h3 hx5 hc5 g3 k0 k3
  go_wp2_with fail
  try rw [hw5]
  obtain ⟨r0, r1, r2, r3, r4, r5, r6, r7, r8, r9⟩ := cells10 HX5.out
  refine bodyPost_ret (v := .tuple #[.agg #[.string ⟨#[]⟩, .int .i64 0, .int .i64 0, .int .i64 0, .int .i64 0, .string ⟨#[]⟩, .int .i64 0, .int .i64 0, .int .i64 0, .slice none 0 0], .bool false]) (by simp [results, Tryz.results30, go_sem, r0, r1, r2, r3, r4, r5, r6, r7, r8, r9]) rfl ?_
  have hA := HB.out.trans (H3.out.mono HB.out.size)
  exact getP_zero HGE.out (hA.trans (boC HC5.out (fun k hk => by rw [mSg.1 hk]; have := HSZ.out; omega) hA.size))
 ·have hkl : k < ne := by rw [HNE.out]; exact (gEs.1 hx).1
  obtain ⟨b, o, S', T', rfl, hS', hT', hwx, c0, c1, c2, c3, c4, c5, c6, c7, c8, c9⟩ := (HES.out.below h3).cells hx
  obtain ⟨S, T, p1, p2, p3, sg, t1, t2, t3, n9, hl⟩ := ent_let x.1
  obtain rfl : S' = S := by rw [hl.s] at hS'; injection hS' with hS'; exact hS'.symm
  obtain rfl : T' = T := by rw [hl.t] at hT'; injection hT' with hT'; exact hT'.symm
  rw [← hl.p.1] at c1; rw [← hl.p.2.1] at c2; rw [← hl.p.2.2] at c3; rw [← hl.g] at c4; rw [← hl.c.1] at c6; rw [← hl.c.2.1] at c7; rw [← hl.c.2.2] at c8; rw [← hl.n] at c9
  have hcp := copied_any w3 Z x.1 x.2.1 x.2.2 hwx (by have := HFEW.out.2.2 x (List.mem_of_getElem? hx); omega)
  rw [hl.arr] at hcp
  obtain ⟨ax, hax⟩ : ∃ y, y = x.2.1 := ⟨_, rfl⟩
  obtain ⟨cx, hcx⟩ : ∃ y, y = x.2.2 := ⟨_, rfl⟩
  rw [← hax, ← hcx] at c9 hcp
  have hge : getE (es.map Prod.fst) p = (x.1, true) := by unfold getE; rw [hfi]
  have hk8 : ((k : Int) < 0) = False := by simp
  have HCP := hdL hcp; have HL := hdL hl; have HGE := hdL hge; have H3 := hdL h3; have G3 := hdL g3
  have hne8 : ne ≤ 100000 := by rw [HNE.out]; exact HFEW.out.1
  clear hcp hl hge h3 g3 hx hfi hS' hT' hwx hax hcx hk8 k0
  go_wp2_with fail
  refine HCP.out.mono ?_
  rintro e w4 ⟨a', c', rfl, hrow, h4⟩
  rw [HL.out.arr]
  have g4 := (h4.block _ (loh G3.out)).trans G3.out
  obtain ⟨w5, hw5, hx5, hc5⟩ := ten_set g4 (.string S') (.int .i64 p1) (.int .i64 p2) (.int .i64 p3) (.int .i64 sg) (.string T') (.int .i64 t1) (.int .i64 t2) (.int .i64 t3) (.slice a' n9 c')
  obtain ⟨z0, z1, z2, z3, z4, z5, z6, z7, z8, z9⟩ := cells10 g4
  have zf := foh g4
  have HR := hdL hrow; have H4 := hdL h4; have HX5 := hdL hx5; have HC5 := hdL hc5
  clear hrow h4 hx5 hc5 g4 c0 c1 c2 c3 c4 c5 c6 c7 c8 c9 k3
  go_wp2_with fail
  try rw [hw5]
  obtain ⟨r0, r1, r2, r3, r4, r5, r6, r7, r8, r9⟩ := cells10 HX5.out
  refine bodyPost_ret (v := .tuple #[.agg #[.string S', .int .i64 p1, .int .i64 p2, .int .i64 p3, .int .i64 sg, .string T', .int .i64 t1, .int .i64 t2, .int .i64 t3, .slice a' n9 c'], .bool true]) (by simp [results, Tryz.results30, go_sem, r0, r1, r2, r3, r4, r5, r6, r7, r8, r9]) rfl ?_
  have hA := HB.out.trans (H3.out.mono HB.out.size)
  have hB := hA.trans (H4.out.mono hA.size)
  have hrow := HR.out
  refine ⟨hB.trans (boC HC5.out (fun k hk => by rw [mSg.1 hk]; have := HSZ.out; omega) hB.size), a', c', ?_, ?_⟩
  ·rw [HGE.out]; dsimp only; rw [HL.out.arr]
  ·rw [HGE.out]
   refine ownsC_keep (ownsC_mono hrow hA.size) (fun g hg => ?_)
   obtain ⟨hge, cur, hc⟩ := oCk hrow hg
   exact HC5.out.block g (loh hc) (fun hm => by have := mSg.1 hm; have := HSZ.out; have := H3.out.size; omega)
theorem sget_nil (w : World) (p : Pk) :
  Calls Tryz.prog 30 #[.pointer none, .agg #[strV p.1, .int .i64 p.2.1, .int .i64 p.2.2.1, .int .i64 p.2.2.2]] w (GetP [] p w) := by
 obtain ⟨P, -, hP, -, -⟩ := strV_is p.1
 obtain ⟨u1, hu1⟩ : ∃ z, z = p.2.1 := ⟨_, rfl⟩
 obtain ⟨u2, hu2⟩ : ∃ z, z = p.2.2.1 := ⟨_, rfl⟩
 obtain ⟨u3, hu3⟩ : ∃ z, z = p.2.2.2 := ⟨_, rfl⟩
 rw [hP, ← hu1, ← hu2, ← hu3]
 obtain ⟨w1, hw1, hb1, hx1, y1, y2⟩ := aBk w #[.string P, .int .i64 u1, .int .i64 u2, .int .i64 u3] 41
 obtain ⟨w2, hw2, hb2, hx2, y3, y4⟩ := aBk w1 #[.string ⟨#[]⟩, .int .i64 0, .int .i64 0, .int .i64 0, .int .i64 0, .string ⟨#[]⟩, .int .i64 0, .int .i64 0, .int .i64 0, .slice none 0 0] 45
 obtain ⟨b2, hb2e⟩ : ∃ b, w1.heap.size = b := ⟨_, rfl⟩
 have hb12 := hb1.trans (hb2.mono hb1.size)
 rw [hb2e] at hx2
 have HB := hdL hb12; have G2 := hdL hx2; have HSZ := hdL (show w.heap.size < b2 from by omega)
 obtain ⟨w5, hw5, hx5, hc5⟩ := ten_set hx2 (.string ⟨#[]⟩) (.int .i64 0) (.int .i64 0) (.int .i64 0) (.int .i64 0) (.string ⟨#[]⟩) (.int .i64 0) (.int .i64 0) (.int .i64 0) (.slice none 0 0)
 obtain ⟨z0, z1, z2, z3, z4, z5, z6, z7, z8, z9⟩ := cells10 hx2
 have zf := foh hx2
 have HX5 := hdL hx5; have HC5 := hdL hc5
 clear hP hu1 hu2 hu3 hb1 hb2 hb12 hx1 hx2 hx5 hc5 y1 y2 y3 y4
 go_enter Tryz.func30, Tryz.ntmps30
 go_wp2_with fail
 try rw [hw5]
 obtain ⟨r0, r1, r2, r3, r4, r5, r6, r7, r8, r9⟩ := cells10 HX5.out
 refine bodyPost_ret (v := .tuple #[.agg #[.string ⟨#[]⟩, .int .i64 0, .int .i64 0, .int .i64 0, .int .i64 0, .string ⟨#[]⟩, .int .i64 0, .int .i64 0, .int .i64 0, .slice none 0 0], .bool false]) (by simp [results, Tryz.results30, go_sem, r0, r1, r2, r3, r4, r5, r6, r7, r8, r9]) rfl ?_
 exact getP_zero rfl (HB.out.trans (boC HC5.out (fun k hk => by rw [mSg.1 hk]; have := HSZ.out; omega) HB.out.size))
theorem sless_any (w : World) (Z : Zone) (Tb : Nat) (es : List EV) (l : List Pk) (m : Int) (h : StgAt Z w Tb es l m) :
  Calls Tryz.prog 21 #[.pointer (some ⟨Tb, 0, none⟩)] w (fun e w' => ∃ a c, e = .returned (.slice a l.length c) ∧ PRow w.heap.size w' (.slice a l.length c, l) ∧ Below w.heap.size w w') := by
 obtain ⟨hz, hfew, aL, cL, al, cl, k0, k1, k2, -, hl⟩ := h
 have HC := hdL (clonepk_any w Z _ l hl (by have := hfew.2.1; omega))
 obtain ⟨nl, hnl⟩ : ∃ n, n = l.length := ⟨_, rfl⟩
 rw [← hnl] at HC k2 ⊢
 clear hz hfew k0 k1 hl hnl
 go_enter Tryz.func21, Tryz.ntmps21
 go_wp2_with fail
 refine HC.out.mono ?_
 rintro e w1 ⟨a, c, rfl, hr, hb⟩
 have HR := hdL hr; have HB := hdL hb
 clear hr hb k2
 go_wp2_with fail
 go_ret
 exact ⟨a, c, rfl, HR.out, HB.out⟩
end Go.Proofs.YtaagkndhgicifaaGreat
