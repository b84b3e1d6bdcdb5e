/- DERIVED. Texts of this claim, put together: ShGetI, ShPut, ShPutI, StkGood, StkGoodB, StkGoodC, StkCopy. -/
import Derived.Test.YtaagkndhgicifaaGreatSv03
import Derived.Deep.DeepCutAuto
namespace Go.Proofs.YtaagkndhgicifaaGreat
set_option maxHeartbeats 32000000
open Go.RowKit
set_option linter.unusedVariables false
set_option maxRecDepth 100000
def Shp (l : List Value) : Prop := ∃ (b : Bool) (s : ByteArray) (x y z : Int) (t : ByteArray) (a1 : Option Addr) (n1 c1 : Nat) (a2 : Option Addr) (n2 c2 : Nat) (a3 : Option Addr) (n3 c3 : Nat),
 l = [.bool b, .string s, .int .i64 x, .int .i64 y, .int .i64 z, .string t, .slice a1 n1 c1, .slice a2 n2 c2, .slice a3 n3 c3]
def ent0 : Array Value := #[.bool false, .string ⟨#[]⟩, .int .i64 0, .int .i64 0, .int .i64 0, .string ⟨#[]⟩, .slice none 0 0, .slice none 0 0, .slice none 0 0]
def GetI (ps : List (KV Int)) (k : Int) (w : World) (e : Ending) (w' : World) : Prop :=
 ∃ (l : List Value) (b : Bool), e = .returned (.tuple #[.agg l.toArray, .bool b]) ∧ (b = true → (k, l) ∈ ps) ∧ (b = false → l = ent0.toList ∧ ∀ l, (k, l) ∉ ps) ∧ Below w.heap.size w w'
theorem below_set {n : Nat} {w W : World} {B : Nat} (h : Below n w W) (hB : n ≤ B) (i : Nat) (v : Value) : Below n w (W.setCell ⟨B, i, none⟩ v) := h.setCell (p := ⟨B, i, none⟩) hB v
theorem set_at {w : World} {B : Nat} {t : TypeId} {cs ds : Array Value} (i : Nat) (v : Value) (h : w.heap[B]? = some (.cells cs t (0, 0))) (he : cs.setIfInBounds i v = ds) : (w.setCell ⟨B, i, none⟩ v).heap[B]? = some (.cells ds t (0, 0)) := by
 rw [← he]
 exact heap_setCell_here v h
theorem nine_set {w : World} {B : Nat} {t : TypeId} {y0 y1 y2 y3 y4 y5 y6 y7 y8 : Value} (h : w.heap[B]? = some (.cells #[y0, y1, y2, y3, y4, y5, y6, y7, y8] t (0, 0))) (x0 x1 x2 x3 x4 x5 x6 x7 x8 : Value) :
  ∃ W, (((((((((w.setCell ⟨B, 0, none⟩ x0).setCell ⟨B, 1, none⟩ x1).setCell ⟨B, 2, none⟩ x2).setCell ⟨B, 3, none⟩ x3).setCell ⟨B, 4, none⟩ x4).setCell ⟨B, 5, none⟩ x5).setCell ⟨B, 6, none⟩ x6).setCell ⟨B, 7, none⟩ x7).setCell ⟨B, 8, none⟩ x8) = W ∧ W.heap[B]? = some (.cells #[x0, x1, x2, x3, x4, x5, x6, x7, x8] t (0, 0)) ∧ ∀ n v0, n ≤ B → Below n v0 w → Below n v0 W := by
 have s0 := set_at 0 x0 h (ds := #[x0, y1, y2, y3, y4, y5, y6, y7, y8]) (by simp)
 have b0 : ∀ n v0, n ≤ B → Below n v0 w → Below n v0 (w.setCell ⟨B, 0, none⟩ x0) := fun n v0 hB hb => below_set hb hB 0 x0
 generalize w.setCell ⟨B, 0, none⟩ x0 = w0 at s0 b0 ⊢
 have s1 := set_at 1 x1 s0 (ds := #[x0, x1, y2, y3, y4, y5, y6, y7, y8]) (by simp)
 have b1 : ∀ n v0, n ≤ B → Below n v0 w → Below n v0 (w0.setCell ⟨B, 1, none⟩ x1) := fun n v0 hB hb => below_set (b0 n v0 hB hb) hB 1 x1
 generalize w0.setCell ⟨B, 1, none⟩ x1 = w1 at s1 b1 ⊢
 have s2 := set_at 2 x2 s1 (ds := #[x0, x1, x2, y3, y4, y5, y6, y7, y8]) (by simp)
 have b2 : ∀ n v0, n ≤ B → Below n v0 w → Below n v0 (w1.setCell ⟨B, 2, none⟩ x2) := fun n v0 hB hb => below_set (b1 n v0 hB hb) hB 2 x2
 generalize w1.setCell ⟨B, 2, none⟩ x2 = w2 at s2 b2 ⊢
 have s3 := set_at 3 x3 s2 (ds := #[x0, x1, x2, x3, y4, y5, y6, y7, y8]) (by simp)
 have b3 : ∀ n v0, n ≤ B → Below n v0 w → Below n v0 (w2.setCell ⟨B, 3, none⟩ x3) := fun n v0 hB hb => below_set (b2 n v0 hB hb) hB 3 x3
 generalize w2.setCell ⟨B, 3, none⟩ x3 = w3 at s3 b3 ⊢
 have s4 := set_at 4 x4 s3 (ds := #[x0, x1, x2, x3, x4, y5, y6, y7, y8]) (by simp)
 have b4 : ∀ n v0, n ≤ B → Below n v0 w → Below n v0 (w3.setCell ⟨B, 4, none⟩ x4) := fun n v0 hB hb => below_set (b3 n v0 hB hb) hB 4 x4
 generalize w3.setCell ⟨B, 4, none⟩ x4 = w4 at s4 b4 ⊢
 have s5 := set_at 5 x5 s4 (ds := #[x0, x1, x2, x3, x4, x5, y6, y7, y8]) (by simp)
 have b5 : ∀ n v0, n ≤ B → Below n v0 w → Below n v0 (w4.setCell ⟨B, 5, none⟩ x5) := fun n v0 hB hb => below_set (b4 n v0 hB hb) hB 5 x5
 generalize w4.setCell ⟨B, 5, none⟩ x5 = w5 at s5 b5 ⊢
 have s6 := set_at 6 x6 s5 (ds := #[x0, x1, x2, x3, x4, x5, x6, y7, y8]) (by simp)
 have b6 : ∀ n v0, n ≤ B → Below n v0 w → Below n v0 (w5.setCell ⟨B, 6, none⟩ x6) := fun n v0 hB hb => below_set (b5 n v0 hB hb) hB 6 x6
 generalize w5.setCell ⟨B, 6, none⟩ x6 = w6 at s6 b6 ⊢
 have s7 := set_at 7 x7 s6 (ds := #[x0, x1, x2, x3, x4, x5, x6, x7, y8]) (by simp)
 have b7 : ∀ n v0, n ≤ B → Below n v0 w → Below n v0 (w6.setCell ⟨B, 7, none⟩ x7) := fun n v0 hB hb => below_set (b6 n v0 hB hb) hB 7 x7
 generalize w6.setCell ⟨B, 7, none⟩ x7 = w7 at s7 b7 ⊢
 have s8 := set_at 8 x8 s7 (ds := #[x0, x1, x2, x3, x4, x5, x6, x7, x8]) (by simp)
 have b8 : ∀ n v0, n ≤ B → Below n v0 w → Below n v0 (w7.setCell ⟨B, 8, none⟩ x8) := fun n v0 hB hb => below_set (b7 n v0 hB hb) hB 8 x8
 generalize w7.setCell ⟨B, 8, none⟩ x8 = w8 at s8 b8 ⊢
 exact ⟨w8, rfl, s8, b8⟩
theorem shgetI_any (w : World) (S : Nat) (v : Value) (ps : List (KV Int)) (k : Int) (h : ShIAt w S v ps) (hsp : ∀ p ∈ ps, Shp p.2) (hl : ps.length ≤ 1000000) :
  Calls Tryz.prog 124 #[.pointer (some ⟨S, 0, none⟩), .int .i64 k] w (GetI ps k w) := by
 have HSP := hdL hsp; clear hsp
 obtain ⟨a, c, rfl⟩ := owns_form h.row
 obtain ⟨w1, hw1, hb1, hx1, y1, y2⟩ := aBk w #[.bool false, .string ⟨#[]⟩, .int .i64 0, .int .i64 0, .int .i64 0, .string ⟨#[]⟩, .slice none 0 0, .slice none 0 0, .slice none 0 0] 121
 have HF := hdL (findI_any w1 S _ ps k (h.below hb1) hl)
 have HH := hdL (h.below hb1); have HB := hdL hb1; have HX := hdL hx1
 obtain ⟨B, hB⟩ : ∃ B, w.heap.size = B := ⟨_, rfl⟩
 rw [hB] at hx1
 have HX := hdL hx1
 clear h hb1 hx1 y1 y2
 go_enter Tryz.func124, Tryz.ntmps124
 go_wp2_with fail
 refine HF.out.mono ?_
 rintro e w' ⟨i, b, rfl, h1, h2, h3⟩
 have hxb := (h3.block _ (loh HX.out)).trans HX.out
 have q0 : w'.cell? ⟨B, 0, none⟩ = some (.bool false) := cOh hxb 0
 have q1 : w'.cell? ⟨B, 1, none⟩ = some (.string ⟨#[]⟩) := cOh hxb 1
 have q2 : w'.cell? ⟨B, 2, none⟩ = some (.int .i64 0) := cOh hxb 2
 have q3 : w'.cell? ⟨B, 3, none⟩ = some (.int .i64 0) := cOh hxb 3
 have q4 : w'.cell? ⟨B, 4, none⟩ = some (.int .i64 0) := cOh hxb 4
 have q5 : w'.cell? ⟨B, 5, none⟩ = some (.string ⟨#[]⟩) := cOh hxb 5
 have q6 : w'.cell? ⟨B, 6, none⟩ = some (.slice none 0 0) := cOh hxb 6
 have q7 : w'.cell? ⟨B, 7, none⟩ = some (.slice none 0 0) := cOh hxb 7
 have q8 : w'.cell? ⟨B, 8, none⟩ = some (.slice none 0 0) := cOh hxb 8
 have qf := foh hxb
 have hbw : Below B w w' := by rw [← hB]; exact HB.out.trans (h3.mono HB.out.size)
 have HBW := hdL hbw
 have HXB := hdL hxb
 cases b
 ·have h2' : ∀ v, (k, v) ∉ ps := fun v hv => by have := h2.2 ⟨v, hv⟩; cases this
  have H2 := hdL h2'; clear h1 h2 h3 h2' hxb hbw
  go_wp2_with fail
  obtain ⟨W, hW, hWx, hWb⟩ := nine_set HXB.out (.bool false) (.string ⟨#[]⟩) (.int .i64 0) (.int .i64 0) (.int .i64 0) (.string ⟨#[]⟩) (.slice none 0 0) (.slice none 0 0) (.slice none 0 0)
  rw [hW]
  clear hW q0 q1 q2 q3 q4 q5 q6 q7 q8
  have r0 : W.cell? ⟨B, 0, none⟩ = some (.bool false) := cOh hWx 0
  have r1 : W.cell? ⟨B, 1, none⟩ = some (.string ⟨#[]⟩) := cOh hWx 1
  have r2 : W.cell? ⟨B, 2, none⟩ = some (.int .i64 0) := cOh hWx 2
  have r3 : W.cell? ⟨B, 3, none⟩ = some (.int .i64 0) := cOh hWx 3
  have r4 : W.cell? ⟨B, 4, none⟩ = some (.int .i64 0) := cOh hWx 4
  have r5 : W.cell? ⟨B, 5, none⟩ = some (.string ⟨#[]⟩) := cOh hWx 5
  have r6 : W.cell? ⟨B, 6, none⟩ = some (.slice none 0 0) := cOh hWx 6
  have r7 : W.cell? ⟨B, 7, none⟩ = some (.slice none 0 0) := cOh hWx 7
  have r8 : W.cell? ⟨B, 8, none⟩ = some (.slice none 0 0) := cOh hWx 8
  refine bodyPost_ret (v := .tuple #[.agg #[.bool false, .string ⟨#[]⟩, .int .i64 0, .int .i64 0, .int .i64 0, .string ⟨#[]⟩, .slice none 0 0, .slice none 0 0, .slice none 0 0], .bool false]) (by simp [results, Tryz.results124, go_sem, r0, r1, r2, r3, r4, r5, r6, r7, r8]) rfl ?_
  refine ⟨ent0.toList, false, rfl, (fun e => by cases e), fun _ => ⟨rfl, H2.out⟩, ?_⟩
  rw [hB]
  exact hWb _ _ (Nat.le_refl _) HBW.out
 ·obtain ⟨val, hval⟩ := h2.1 rfl
  have hat := h1.at HH.out.srt hval
  have hil := (gEs.1 hat).1
  have hne : ps ≠ [] := by intro e; rw [e] at hil; exact absurd hil (Nat.not_lt_zero _)
  have hk := (HH.out.below h3)
  obtain ⟨g, rfl, hg, hcc⟩ := hk.rd hne
  obtain ⟨sb, ss, sx, sy, sz, st, sa1, sn1, sc1, sa2, sn2, sc2, sa3, sn3, sc3, hv⟩ := HSP.out _ hval
  dsimp only at hv
  subst hv
  have hc := hcc _ _ hat
  have c1 : w'.cell? ⟨g, i * 10 + 1, none⟩ = some (.bool sb) := hc 1 _ rfl
  have c2 : w'.cell? ⟨g, i * 10 + 2, none⟩ = some (.string ss) := hc 2 _ rfl
  have c3 : w'.cell? ⟨g, i * 10 + 3, none⟩ = some (.int .i64 sx) := hc 3 _ rfl
  have c4 : w'.cell? ⟨g, i * 10 + 4, none⟩ = some (.int .i64 sy) := hc 4 _ rfl
  have c5 : w'.cell? ⟨g, i * 10 + 5, none⟩ = some (.int .i64 sz) := hc 5 _ rfl
  have c6 : w'.cell? ⟨g, i * 10 + 6, none⟩ = some (.string st) := hc 6 _ rfl
  have c7 : w'.cell? ⟨g, i * 10 + 7, none⟩ = some (.slice sa1 sn1 sc1) := hc 7 _ rfl
  have c8 : w'.cell? ⟨g, i * 10 + 8, none⟩ = some (.slice sa2 sn2 sc2) := hc 8 _ rfl
  have c9 : w'.cell? ⟨g, i * 10 + 9, none⟩ = some (.slice sa3 sn3 sc3) := hc 9 _ rfl
  have k0 := cOh hk.cells 0
  have HV := hdL hval; clear h1 h2 h3 hc hcc hval hat hk hxb hbw
  go_upto_region 4 with fail
  obtain ⟨W, hW, hWx, hWb⟩ := nine_set HXB.out (.bool sb) (.string ss) (.int .i64 sx) (.int .i64 sy) (.int .i64 sz) (.string st) (.slice sa1 sn1 sc1) (.slice sa2 sn2 sc2) (.slice sa3 sn3 sc3)
  rw [hW]
  have HWX := hdL hWx; have HWB := hdL hWb
  have wf := foh hWx
  clear hW q0 q1 q2 q3 q4 q5 q6 q7 q8 qf c1 c2 c3 c4 c5 c6 c7 c8 c9 k0 hWb
  have r0 : W.cell? ⟨B, 0, none⟩ = some (.bool sb) := cOh hWx 0
  have r1 : W.cell? ⟨B, 1, none⟩ = some (.string ss) := cOh hWx 1
  have r2 : W.cell? ⟨B, 2, none⟩ = some (.int .i64 sx) := cOh hWx 2
  have r3 : W.cell? ⟨B, 3, none⟩ = some (.int .i64 sy) := cOh hWx 3
  have r4 : W.cell? ⟨B, 4, none⟩ = some (.int .i64 sz) := cOh hWx 4
  have r5 : W.cell? ⟨B, 5, none⟩ = some (.string st) := cOh hWx 5
  have r6 : W.cell? ⟨B, 6, none⟩ = some (.slice sa1 sn1 sc1) := cOh hWx 6
  have r7 : W.cell? ⟨B, 7, none⟩ = some (.slice sa2 sn2 sc2) := cOh hWx 7
  have r8 : W.cell? ⟨B, 8, none⟩ = some (.slice sa3 sn3 sc3) := cOh hWx 8
  clear hWx
  go_wp2_with fail
  obtain ⟨W2, hW, hWx, hWb⟩ := nine_set HWX.out (.bool sb) (.string ss) (.int .i64 sx) (.int .i64 sy) (.int .i64 sz) (.string st) (.slice sa1 sn1 sc1) (.slice sa2 sn2 sc2) (.slice sa3 sn3 sc3)
  rw [hW]
  clear hW r0 r1 r2 r3 r4 r5 r6 r7 r8 wf
  have r0 : W2.cell? ⟨B, 0, none⟩ = some (.bool sb) := cOh hWx 0
  have r1 : W2.cell? ⟨B, 1, none⟩ = some (.string ss) := cOh hWx 1
  have r2 : W2.cell? ⟨B, 2, none⟩ = some (.int .i64 sx) := cOh hWx 2
  have r3 : W2.cell? ⟨B, 3, none⟩ = some (.int .i64 sy) := cOh hWx 3
  have r4 : W2.cell? ⟨B, 4, none⟩ = some (.int .i64 sz) := cOh hWx 4
  have r5 : W2.cell? ⟨B, 5, none⟩ = some (.string st) := cOh hWx 5
  have r6 : W2.cell? ⟨B, 6, none⟩ = some (.slice sa1 sn1 sc1) := cOh hWx 6
  have r7 : W2.cell? ⟨B, 7, none⟩ = some (.slice sa2 sn2 sc2) := cOh hWx 7
  have r8 : W2.cell? ⟨B, 8, none⟩ = some (.slice sa3 sn3 sc3) := cOh hWx 8
  refine bodyPost_ret (v := .tuple #[.agg #[.bool sb, .string ss, .int .i64 sx, .int .i64 sy, .int .i64 sz, .string st, .slice sa1 sn1 sc1, .slice sa2 sn2 sc2, .slice sa3 sn3 sc3], .bool true]) (by simp [results, Tryz.results124, go_sem, r0, r1, r2, r3, r4, r5, r6, r7, r8]) rfl ?_
  refine ⟨[.bool sb, .string ss, .int .i64 sx, .int .i64 sy, .int .i64 sz, .string st, .slice sa1 sn1 sc1, .slice sa2 sn2 sc2, .slice sa3 sn3 sc3], true, rfl, fun _ => HV.out, (fun e => by cases e), ?_⟩
  rw [hB]
  exact hWb _ _ (Nat.le_refl _) (HWB.out _ _ (Nat.le_refl _) HBW.out)
def ShSTo (w : World) (S : Nat) (v : Value) (ps' : List (KV (List UInt8))) (w' : World) : Prop :=
 ∃ v', ShSAt w' S v' ps' ∧ Ch (shFoot S v) w w' ∧ ∀ k ∈ shFoot S v', k ∈ shFoot S v ∨ w.heap.size ≤ k
theorem put_closedS {w W : World} {S : Nat} {v v' : Value} {ps ps' : List (KV (List UInt8))} (h : ShSAt w S v ps) (hc : Ch (shFoot S v) w W) (hcells : W.heap[S]? = some (.cells #[v'] 155 (0, 0))) (hrow : W.ownsRow 0 180 2 v' ps'.length (rowsV kStr ps'))
  (hs : SrtK kStr ps') (hw : WidK 2 ps') (hb : v'.ownBlock = v.ownBlock ∨ ∃ k, v'.ownBlock = some k ∧ w.heap.size ≤ k) : ShSTo w S v ps' W := by
 refine ⟨v', ⟨hcells, hrow, ?_, hs, hw⟩, hc, ?_⟩
 ·rcases hb with e | ⟨k, e, hk⟩
  ·rw [e]; exact h.apart
  ·rw [e]; intro e; have := sIj e; have := loh h.cells; omega
 ·intro k hk
  rcases List.mem_cons.1 hk with rfl | hk
  ·exact .inl (by simp [shFoot])
  ·rcases hb with e | ⟨k', e, hk'⟩
   ·rw [e] at hk; exact .inl (by simp [shFoot] at hk ⊢; exact .inr hk)
   ·rw [e] at hk
    obtain rfl : k' = k := by have := hk; simp at this; exact this.symm
    exact .inr hk'
def ShITo (w : World) (S : Nat) (v : Value) (ps' : List (KV (Int))) (w' : World) : Prop :=
 ∃ v', ShIAt w' S v' ps' ∧ Ch (shFoot S v) w w' ∧ ∀ k ∈ shFoot S v', k ∈ shFoot S v ∨ w.heap.size ≤ k
theorem put_closedI {w W : World} {S : Nat} {v v' : Value} {ps ps' : List (KV (Int))} (h : ShIAt w S v ps) (hc : Ch (shFoot S v) w W) (hcells : W.heap[S]? = some (.cells #[v'] 187 (0, 0))) (hrow : W.ownsRow 0 185 10 v' ps'.length (rowsV kInt ps'))
  (hs : SrtK kInt ps') (hw : WidK 10 ps') (hb : v'.ownBlock = v.ownBlock ∨ ∃ k, v'.ownBlock = some k ∧ w.heap.size ≤ k) : ShITo w S v ps' W := by
 refine ⟨v', ⟨hcells, hrow, ?_, hs, hw⟩, hc, ?_⟩
 ·rcases hb with e | ⟨k, e, hk⟩
  ·rw [e]; exact h.apart
  ·rw [e]; intro e; have := sIj e; have := loh h.cells; omega
 ·intro k hk
  rcases List.mem_cons.1 hk with rfl | hk
  ·exact .inl (by simp [shFoot])
  ·rcases hb with e | ⟨k', e, hk'⟩
   ·rw [e] at hk; exact .inl (by simp [shFoot] at hk ⊢; exact .inr hk)
   ·rw [e] at hk
    obtain rfl : k' = k := by have := hk; simp at this; exact this.symm
    exact .inr hk'
def PutS (w : World) (S : Nat) (v : Value) (ps : List (KV (List UInt8))) (p : KV (List UInt8)) (e : Ending) (w' : World) : Prop :=
 ∃ i, e = .returned (.tuple #[.pointer none, .bool false]) ∧ PosK kStr ps p.1 i ∧ ShSTo w S v (insK ps i p) w'
theorem shputS_any (w : World) (S : Nat) (v : Value) (ps : List (KV (List UInt8))) (k : List UInt8) (P : Nat) (h : ShSAt w S v ps) (hl : ps.length ≤ 999999) (hn : ∀ l, (k, l) ∉ ps) :
  Calls Tryz.prog 98 #[.pointer (some ⟨S, 0, none⟩), strV k, .pointer (some ⟨P, 0, none⟩)] w (PutS w S v ps (k, [.pointer (some ⟨P, 0, none⟩)])) := by
 obtain ⟨a, c, rfl⟩ := owns_form h.row
 have HF := hdL (findS_any w S _ ps k h (by omega))
 have HH := hdL h; have HNO := hdL hn; clear h hn
 unfold strV
 go_enter Tryz.func98, Tryz.ntmps98
 go_wp2_with fail
 refine HF.out.mono ?_
 rintro e w1 ⟨i, b, rfl, h1, h2, h3⟩
 obtain rfl : b = false := by
  cases b
  ·rfl
  ·obtain ⟨l, hl⟩ := h2.1 rfl
   exact absurd hl (HNO.out l)
 have hk := (HH.out.below h3)
 have k0 := cOh hk.cells 0
 have kf := foh hk.cells
 have hil0 := h1.le
 have HB := hdL h3; have HP := hdL h1; have HK := hdL hk
 have hSl := loh hk.cells
 have hins := ins_anyS (w1.alloc (.cells #[strV k, .pointer (some ⟨P, 0, none⟩)] 180)) 0 a c i ps w1.heap.size (k, [.pointer (some ⟨P, 0, none⟩)]) (hk.below ((Below.refl _ _).alloc (Nat.le_refl _) _)).row (heap_alloc_new w1 _) (fun e => by have := owns_lt hk.row _ e; omega) (Nat.zero_le _) (by omega) h1.le hk.wid rfl (by intro u hu; simp at hu; subst hu; rfl)
 unfold strV at hins
 have HI := hdL hins
 clear h1 h2 h3 hk hins
 go_wp2_with fail
 refine HI.out.mono ?_
 rintro e w2 ⟨a2, c2, rfl, hown, hgrow, hblk⟩
 have hS : w2.heap[S]? = some (.cells #[.slice a ps.length c] 155 (0, 0)) := by
  rw [hgrow.block S (by simp; omega) (fun e => HK.out.apart e.symm), Below.heap_alloc w1 _ S hSl]
  exact HK.out.cells
 have k2 := cOh hS 0
 have kf2 := foh hS
 have HS := hdL hS; have HO := hdL hown; have HG := hdL hgrow; have HBK := hdL hblk
 clear hS hown hgrow hblk
 go_wp2_with fail
 go_ret2
 refine ⟨i, rfl, HP.out, ?_⟩
 have hlen : (insK ps i (k, [.pointer (some ⟨P, 0, none⟩)])).length = ps.length + 1 := insK_length _ _ _ hil0
 have hch : Ch (shFoot S (.slice a ps.length c)) w w1 := Ch.of_below HB.out _
 refine put_closedS HH.out ?_ (heap_setCell_here _ HS.out) ?_ (HP.out.srt HH.out.srt HNO.out) (HH.out.wid.ins rfl (by intro u hu; simp at hu; subst hu; rfl)) ?_
 ·exact ((hch.alloc _).grown HG.out (fun k hk => .inl (by simp [shFoot, hk]))).setCell (.inl (by simp [shFoot])) _
 ·rw [hlen]
  refine ownsRow_keep HO.out (fun g hg => bHs _ _ _ _ ?_)
  rintro rfl
  rcases HBK.out with e | e
  ·exact HH.out.apart (by rw [← e]; exact hg)
  ·rw [e] at hg
   have := sIj hg
   simp at this
   omega
 ·rcases HBK.out with e | e
  ·exact .inl e
  ·exact .inr ⟨_, e, by simp; have := HB.out.size; omega⟩
theorem nine_ch {w : World} {B : Nat} (x0 x1 x2 x3 x4 x5 x6 x7 x8 : Value) : ∀ W, (((((((((w.setCell ⟨B, 0, none⟩ x0).setCell ⟨B, 1, none⟩ x1).setCell ⟨B, 2, none⟩ x2).setCell ⟨B, 3, none⟩ x3).setCell ⟨B, 4, none⟩ x4).setCell ⟨B, 5, none⟩ x5).setCell ⟨B, 6, none⟩ x6).setCell ⟨B, 7, none⟩ x7).setCell ⟨B, 8, none⟩ x8) = W → (∀ S0 v0, (B ∈ S0 ∨ v0.heap.size ≤ B) → Ch S0 v0 w → Ch S0 v0 W) ∧ ∀ k, k ≠ B → W.heap[k]? = w.heap[k]? := by
 rintro W rfl
 have b0 : ∀ S0 v0, (B ∈ S0 ∨ v0.heap.size ≤ B) → Ch S0 v0 w → Ch S0 v0 (w.setCell ⟨B, 0, none⟩ x0) := fun S0 v0 hB hb => Ch.setCell (p := ⟨B, 0, none⟩) hb hB x0
 have s0 : ∀ k, k ≠ B → (w.setCell ⟨B, 0, none⟩ x0).heap[k]? = w.heap[k]? := fun k hk => (bHs _ _ _ _ (by simpa using hk))
 generalize w.setCell ⟨B, 0, none⟩ x0 = w0 at s0 b0 ⊢
 have b1 : ∀ S0 v0, (B ∈ S0 ∨ v0.heap.size ≤ B) → Ch S0 v0 w → Ch S0 v0 (w0.setCell ⟨B, 1, none⟩ x1) := fun S0 v0 hB hb => Ch.setCell (p := ⟨B, 1, none⟩) (b0 S0 v0 hB hb) hB x1
 have s1 : ∀ k, k ≠ B → (w0.setCell ⟨B, 1, none⟩ x1).heap[k]? = w.heap[k]? := fun k hk => (bHs _ _ _ _ (by simpa using hk)).trans (s0 k hk)
 generalize w0.setCell ⟨B, 1, none⟩ x1 = w1 at s1 b1 ⊢
 have b2 : ∀ S0 v0, (B ∈ S0 ∨ v0.heap.size ≤ B) → Ch S0 v0 w → Ch S0 v0 (w1.setCell ⟨B, 2, none⟩ x2) := fun S0 v0 hB hb => Ch.setCell (p := ⟨B, 2, none⟩) (b1 S0 v0 hB hb) hB x2
 have s2 : ∀ k, k ≠ B → (w1.setCell ⟨B, 2, none⟩ x2).heap[k]? = w.heap[k]? := fun k hk => (bHs _ _ _ _ (by simpa using hk)).trans (s1 k hk)
 generalize w1.setCell ⟨B, 2, none⟩ x2 = w2 at s2 b2 ⊢
 have b3 : ∀ S0 v0, (B ∈ S0 ∨ v0.heap.size ≤ B) → Ch S0 v0 w → Ch S0 v0 (w2.setCell ⟨B, 3, none⟩ x3) := fun S0 v0 hB hb => Ch.setCell (p := ⟨B, 3, none⟩) (b2 S0 v0 hB hb) hB x3
 have s3 : ∀ k, k ≠ B → (w2.setCell ⟨B, 3, none⟩ x3).heap[k]? = w.heap[k]? := fun k hk => (bHs _ _ _ _ (by simpa using hk)).trans (s2 k hk)
 generalize w2.setCell ⟨B, 3, none⟩ x3 = w3 at s3 b3 ⊢
 have b4 : ∀ S0 v0, (B ∈ S0 ∨ v0.heap.size ≤ B) → Ch S0 v0 w → Ch S0 v0 (w3.setCell ⟨B, 4, none⟩ x4) := fun S0 v0 hB hb => Ch.setCell (p := ⟨B, 4, none⟩) (b3 S0 v0 hB hb) hB x4
 have s4 : ∀ k, k ≠ B → (w3.setCell ⟨B, 4, none⟩ x4).heap[k]? = w.heap[k]? := fun k hk => (bHs _ _ _ _ (by simpa using hk)).trans (s3 k hk)
 generalize w3.setCell ⟨B, 4, none⟩ x4 = w4 at s4 b4 ⊢
 have b5 : ∀ S0 v0, (B ∈ S0 ∨ v0.heap.size ≤ B) → Ch S0 v0 w → Ch S0 v0 (w4.setCell ⟨B, 5, none⟩ x5) := fun S0 v0 hB hb => Ch.setCell (p := ⟨B, 5, none⟩) (b4 S0 v0 hB hb) hB x5
 have s5 : ∀ k, k ≠ B → (w4.setCell ⟨B, 5, none⟩ x5).heap[k]? = w.heap[k]? := fun k hk => (bHs _ _ _ _ (by simpa using hk)).trans (s4 k hk)
 generalize w4.setCell ⟨B, 5, none⟩ x5 = w5 at s5 b5 ⊢
 have b6 : ∀ S0 v0, (B ∈ S0 ∨ v0.heap.size ≤ B) → Ch S0 v0 w → Ch S0 v0 (w5.setCell ⟨B, 6, none⟩ x6) := fun S0 v0 hB hb => Ch.setCell (p := ⟨B, 6, none⟩) (b5 S0 v0 hB hb) hB x6
 have s6 : ∀ k, k ≠ B → (w5.setCell ⟨B, 6, none⟩ x6).heap[k]? = w.heap[k]? := fun k hk => (bHs _ _ _ _ (by simpa using hk)).trans (s5 k hk)
 generalize w5.setCell ⟨B, 6, none⟩ x6 = w6 at s6 b6 ⊢
 have b7 : ∀ S0 v0, (B ∈ S0 ∨ v0.heap.size ≤ B) → Ch S0 v0 w → Ch S0 v0 (w6.setCell ⟨B, 7, none⟩ x7) := fun S0 v0 hB hb => Ch.setCell (p := ⟨B, 7, none⟩) (b6 S0 v0 hB hb) hB x7
 have s7 : ∀ k, k ≠ B → (w6.setCell ⟨B, 7, none⟩ x7).heap[k]? = w.heap[k]? := fun k hk => (bHs _ _ _ _ (by simpa using hk)).trans (s6 k hk)
 generalize w6.setCell ⟨B, 7, none⟩ x7 = w7 at s7 b7 ⊢
 have b8 : ∀ S0 v0, (B ∈ S0 ∨ v0.heap.size ≤ B) → Ch S0 v0 w → Ch S0 v0 (w7.setCell ⟨B, 8, none⟩ x8) := fun S0 v0 hB hb => Ch.setCell (p := ⟨B, 8, none⟩) (b7 S0 v0 hB hb) hB x8
 have s8 : ∀ k, k ≠ B → (w7.setCell ⟨B, 8, none⟩ x8).heap[k]? = w.heap[k]? := fun k hk => (bHs _ _ _ _ (by simpa using hk)).trans (s7 k hk)
 generalize w7.setCell ⟨B, 8, none⟩ x8 = w8 at s8 b8 ⊢
 exact ⟨b8, s8⟩
def PutI (w : World) (S : Nat) (v : Value) (ps : List (KV Int)) (p : KV Int) (e : Ending) (w' : World) : Prop :=
 ∃ i, e = .returned (.tuple #[.agg #[.bool false, .string ⟨#[]⟩, .int .i64 0, .int .i64 0, .int .i64 0, .string ⟨#[]⟩, .slice none 0 0, .slice none 0 0, .slice none 0 0], .bool false]) ∧ PosK kInt ps p.1 i ∧ ShITo w S v (insK ps i p) w'
theorem shp_one {l : List Value} (h : Shp l) : l.length + 1 = 10 ∧ ∀ u ∈ l, u.oneCell' = true := by
 obtain ⟨sb, ss, sx, sy, sz, st, sa1, sn1, sc1, sa2, sn2, sc2, sa3, sn3, sc3, rfl⟩ := h
 refine ⟨rfl, fun u hu => ?_⟩
 simp at hu
 rcases hu with rfl | rfl | rfl | rfl | rfl | rfl | rfl | rfl | rfl <;> rfl
theorem shputI_any (w : World) (S : Nat) (v : Value) (ps : List (KV Int)) (k : Int) (l : List Value) (hs : Shp l) (h : ShIAt w S v ps) (hl : ps.length ≤ 999999) (hn : ∀ l, (k, l) ∉ ps) :
  Calls Tryz.prog 99 #[.pointer (some ⟨S, 0, none⟩), .int .i64 k, .agg l.toArray] w (PutI w S v ps (k, l)) := by
 have hs1 := shp_one hs
 obtain ⟨a, c, rfl⟩ := owns_form h.row
 obtain ⟨sb, ss, sx, sy, sz, st, sa1, sn1, sc1, sa2, sn2, sc2, sa3, sn3, sc3, rfl⟩ := hs
 obtain ⟨w1, hw1, hb1, hx1, y1, y2⟩ := aBk w #[.bool sb, .string ss, .int .i64 sx, .int .i64 sy, .int .i64 sz, .string st, .slice sa1 sn1 sc1, .slice sa2 sn2 sc2, .slice sa3 sn3 sc3] 121
 obtain ⟨w2, hw2, hb2, hx2, y3, y4⟩ := aBk w1 #[.bool false, .string ⟨#[]⟩, .int .i64 0, .int .i64 0, .int .i64 0, .string ⟨#[]⟩, .slice none 0 0, .slice none 0 0, .slice none 0 0] 121
 obtain ⟨B5, hB5⟩ : ∃ B, w.heap.size = B := ⟨_, rfl⟩
 obtain ⟨B6, hB6⟩ : ∃ B, w1.heap.size = B := ⟨_, rfl⟩
 have hb12 := hb1.trans (hb2.mono hb1.size)
 have hx12 := (hb2.block _ (by omega)).trans hx1
 rw [hB5] at hx12; rw [hB6] at hx2
 have HF := hdL (findI_any w2 S _ ps k (h.below hb12) (by omega))
 have HSZ := hdL (show w.heap.size = B5 ∧ B6 = B5 + 1 ∧ w2.heap.size = B5 + 2 from by omega)
 have HH := hdL h; have HNO := hdL hn; have H12 := hdL hb12; have HX5 := hdL hx12; have HX6 := hdL hx2; have HS1 := hdL hs1
 clear h hn hb1 hb2 hb12 hx1 hx2 hx12 y1 y2 y3 y4 hs1
 go_enter Tryz.func99, Tryz.ntmps99
 go_wp2_with fail
 refine HF.out.mono ?_
 rintro e w3 ⟨i, b, rfl, h1, h2, h3⟩
 obtain rfl : b = false := by
  cases b
  ·rfl
  ·obtain ⟨l, hl⟩ := h2.1 rfl
   exact absurd hl (HNO.out l)
 have h23 := H12.out.trans (h3.mono H12.out.size)
 have hk := (HH.out.below h23)
 have k0 := cOh hk.cells 0
 have kf := foh hk.cells
 have hil0 := h1.le
 have hSl := loh hk.cells
 have hx5 := (h3.block _ (loh HX5.out)).trans HX5.out
 have hx6 := (h3.block _ (loh HX6.out)).trans HX6.out
 have p0 : w3.cell? ⟨B5, 0, none⟩ = some (.bool sb) := cOh hx5 0
 have p1 : w3.cell? ⟨B5, 1, none⟩ = some (.string ss) := cOh hx5 1
 have p2 : w3.cell? ⟨B5, 2, none⟩ = some (.int .i64 sx) := cOh hx5 2
 have p3 : w3.cell? ⟨B5, 3, none⟩ = some (.int .i64 sy) := cOh hx5 3
 have p4 : w3.cell? ⟨B5, 4, none⟩ = some (.int .i64 sz) := cOh hx5 4
 have p5 : w3.cell? ⟨B5, 5, none⟩ = some (.string st) := cOh hx5 5
 have p6 : w3.cell? ⟨B5, 6, none⟩ = some (.slice sa1 sn1 sc1) := cOh hx5 6
 have p7 : w3.cell? ⟨B5, 7, none⟩ = some (.slice sa2 sn2 sc2) := cOh hx5 7
 have p8 : w3.cell? ⟨B5, 8, none⟩ = some (.slice sa3 sn3 sc3) := cOh hx5 8
 have hk0 : (w3.alloc (.cells #[.int .i64 k, .bool sb, .string ss, .int .i64 sx, .int .i64 sy, .int .i64 sz, .string st, .slice sa1 sn1 sc1, .slice sa2 sn2 sc2, .slice sa3 sn3 sc3] 185)).cell? ⟨S, 0, none⟩ = some (.slice a ps.length c) := cOh ((Below.heap_alloc w3 _ S hSl).trans hk.cells) 0
 have hb34 : Below w3.heap.size w3 ((w3.alloc (.cells #[.int .i64 k, .bool sb, .string ss, .int .i64 sx, .int .i64 sy, .int .i64 sz, .string st, .slice sa1 sn1 sc1, .slice sa2 sn2 sc2, .slice sa3 sn3 sc3] 185)).drew) := ((Below.refl _ w3).alloc (Nat.le_refl _) _).drew
 have hins := ins_anyI ((w3.alloc (.cells #[.int .i64 k, .bool sb, .string ss, .int .i64 sx, .int .i64 sy, .int .i64 sz, .string st, .slice sa1 sn1 sc1, .slice sa2 sn2 sc2, .slice sa3 sn3 sc3] 185)).drew) 0 a c i ps w3.heap.size (k, [.bool sb, .string ss, .int .i64 sx, .int .i64 sy, .int .i64 sz, .string st, .slice sa1 sn1 sc1, .slice sa2 sn2 sc2, .slice sa3 sn3 sc3]) (hk.below hb34).row (heap_alloc_new w3 _) (fun e => by have := owns_lt hk.row _ e; omega) (Nat.zero_le _) (by omega) h1.le hk.wid HS1.out.1 HS1.out.2
 have HI := hdL hins; have HK := hdL hk; have HP := hdL h1; have H23 := hdL h23; have H34 := hdL hb34; have HB := hdL h3
 have HX5' := hdL hx5; have HX6' := hdL hx6
 have HZ4 := hdL (show ((w3.alloc (.cells #[.int .i64 k, .bool sb, .string ss, .int .i64 sx, .int .i64 sy, .int .i64 sz, .string st, .slice sa1 sn1 sc1, .slice sa2 sn2 sc2, .slice sa3 sn3 sc3] 185)).drew).heap.size = w3.heap.size + 1 from by show (w3.alloc _).heap.size = _; simp)
 clear hins hk h1 h2 h3 h23 hb34 hx5 hx6
 go_wp2_with fail
 go_region_law (first | (go_simp; go_at_call 137; refine HI.out.mono ?_; rintro e w5 ⟨a2, c2, rfl, hown, hgrow, hblk⟩; have hS : w5.heap[S]? = some (.cells #[.slice a ps.length c] 187 (0, 0)) := (by rw [hgrow.block S (by have := HZ4.out; have := loh HK.out.cells; omega) (fun e => HK.out.apart e.symm)]; exact (H34.out.block S (loh HK.out.cells)).trans HK.out.cells); have j0 := cOh hS 0; have jf := foh hS; have HS := hdL hS; have HO := hdL hown; have HG := hdL hgrow; have HBK := hdL hblk; clear hS hown hgrow hblk))
 all_goals
  have hsz := HSZ.out
  have hz4 := HZ4.out
  have hs3 := HB.out.size
  have hSw : S < w.heap.size := loh HH.out.cells
  have hx65 : w5.heap[B6]? = _ := ((HG.out.block B6 (by omega) (fun e => by have := owns_lt HH.out.row B6 e.symm; omega)).trans (H34.out.block B6 (by omega))).trans HX6'.out
  have hx6s : (w5.setCell ⟨S, 0, none⟩ (.slice a2 (ps.length + 1) c2)).heap[B6]? = _ := (bHs _ _ _ _ (by simp; omega)).trans hx65
  obtain ⟨w6, hw6⟩ : ∃ w6, w5.setCell ⟨S, 0, none⟩ (.slice a2 (ps.length + 1) c2) = w6 := ⟨_, rfl⟩
  rw [hw6] at hx6s
  have z0 : w6.cell? ⟨B6, 0, none⟩ = some (.bool false) := cOh hx6s 0
  have z1 : w6.cell? ⟨B6, 1, none⟩ = some (.string ⟨#[]⟩) := cOh hx6s 1
  have z2 : w6.cell? ⟨B6, 2, none⟩ = some (.int .i64 0) := cOh hx6s 2
  have z3 : w6.cell? ⟨B6, 3, none⟩ = some (.int .i64 0) := cOh hx6s 3
  have z4 : w6.cell? ⟨B6, 4, none⟩ = some (.int .i64 0) := cOh hx6s 4
  have z5 : w6.cell? ⟨B6, 5, none⟩ = some (.string ⟨#[]⟩) := cOh hx6s 5
  have z6 : w6.cell? ⟨B6, 6, none⟩ = some (.slice none 0 0) := cOh hx6s 6
  have z7 : w6.cell? ⟨B6, 7, none⟩ = some (.slice none 0 0) := cOh hx6s 7
  have z8 : w6.cell? ⟨B6, 8, none⟩ = some (.slice none 0 0) := cOh hx6s 8
  have zf := foh hx6s
  have HX6S := hdL hx6s; have HW6 := hdL hw6
  clear hx6s hx65 hs3 hsz hz4 p0 p1 p2 p3 p4 p5 p6 p7 p8 k0 hk0 kf j0 jf
  go_wp2_with fail
  obtain ⟨W, hW, hWx, hWb⟩ := nine_set HX6S.out (.bool false) (.string ⟨#[]⟩) (.int .i64 0) (.int .i64 0) (.int .i64 0) (.string ⟨#[]⟩) (.slice none 0 0) (.slice none 0 0) (.slice none 0 0)
  obtain ⟨hch, hot⟩ := nine_ch (.bool false) (.string ⟨#[]⟩) (.int .i64 0) (.int .i64 0) (.int .i64 0) (.string ⟨#[]⟩) (.slice none 0 0) (.slice none 0 0) (.slice none 0 0) W hW
  rw [hW]
  have HCH := hdL hch; have HOT := hdL hot
  clear hW z0 z1 z2 z3 z4 z5 z6 z7 z8 hWb hch hot
  have r0 : W.cell? ⟨B6, 0, none⟩ = some (.bool false) := cOh hWx 0
  have r1 : W.cell? ⟨B6, 1, none⟩ = some (.string ⟨#[]⟩) := cOh hWx 1
  have r2 : W.cell? ⟨B6, 2, none⟩ = some (.int .i64 0) := cOh hWx 2
  have r3 : W.cell? ⟨B6, 3, none⟩ = some (.int .i64 0) := cOh hWx 3
  have r4 : W.cell? ⟨B6, 4, none⟩ = some (.int .i64 0) := cOh hWx 4
  have r5 : W.cell? ⟨B6, 5, none⟩ = some (.string ⟨#[]⟩) := cOh hWx 5
  have r6 : W.cell? ⟨B6, 6, none⟩ = some (.slice none 0 0) := cOh hWx 6
  have r7 : W.cell? ⟨B6, 7, none⟩ = some (.slice none 0 0) := cOh hWx 7
  have r8 : W.cell? ⟨B6, 8, none⟩ = some (.slice none 0 0) := cOh hWx 8
  refine bodyPost_ret (v := .tuple #[.agg #[.bool false, .string ⟨#[]⟩, .int .i64 0, .int .i64 0, .int .i64 0, .string ⟨#[]⟩, .slice none 0 0, .slice none 0 0, .slice none 0 0], .bool false]) (by simp [results, Tryz.results99, go_sem, r0, r1, r2, r3, r4, r5, r6, r7, r8]) rfl ?_
  refine ⟨i, rfl, HP.out, ?_⟩
  have hlen : (insK ps i (k, [.bool sb, .string ss, .int .i64 sx, .int .i64 sy, .int .i64 sz, .string st, .slice sa1 sn1 sc1, .slice sa2 sn2 sc2, .slice sa3 sn3 sc3])).length = ps.length + 1 := insK_length _ _ _ hil0
  have hsz := HSZ.out
  have hz4 := HZ4.out
  have hs3 := HB.out.size
  have hch : Ch (shFoot S (.slice a ps.length c)) w w3 := Ch.of_below H23.out _
  refine put_closedI (v' := .slice a2 (ps.length + 1) c2) HH.out ?_ ?_ ?_ (HP.out.srt HH.out.srt HNO.out) (HH.out.wid.ins HS1.out.1 HS1.out.2) ?_
  ·refine HCH.out _ _ (.inr (by omega)) ?_
   rw [← HW6.out]
   exact (((hch.alloc _).drew).grown HG.out (fun k hk => .inl (by simp [shFoot, hk]))).setCell (.inl (by simp [shFoot])) _
  ·rw [HOT.out S (by omega), ← HW6.out]
   exact heap_setCell_here (i := 0) (.slice a2 (ps.length + 1) c2) HS.out
  ·rw [hlen]
   refine ownsRow_keep HO.out (fun g hg => ?_)
   rcases HBK.out with e | e
   ·have hgl := owns_lt HH.out.row g (by rw [← e]; exact hg)
    rw [HOT.out g (by omega), ← HW6.out]
    refine bHs _ _ _ _ ?_
    rintro rfl
    exact HH.out.apart (by rw [← e]; exact hg)
   ·rw [e] at hg
    have hge := sIj hg
    rw [HOT.out g (by omega), ← HW6.out]
    refine bHs _ _ _ _ ?_
    rintro rfl
    omega
  ·rcases HBK.out with e | e
   ·exact .inl e
   ·exact .inr ⟨_, e, by omega⟩
theorem strV_is (l : List UInt8) : ∃ S : ByteArray, S = ⟨l.toArray⟩ ∧ strV l = .string S ∧ S.data.toList = l ∧ S.size = l.length := ⟨_, rfl, rfl, by simp, by rw [str_size]⟩
theorem str_eqb (P Q : ByteArray) (p q : List UInt8) (hP : P.data.toList = p) (hQ : Q.data.toList = q) : (P.toList == Q.toList) = decide (p = q) := by
 rw [Lib.toList_data, Lib.toList_data, hP, hQ]
 rw [Bool.eq_iff_iff]
 simp
theorem nameV_any (w : World) (l : List UInt8) (hl : l.length ≤ 140737488351232) : Calls Tryz.prog 58 #[strV l] w (fun e w' => e = .returned (.bool (nameB l)) ∧ Below w.heap.size w w') := by
 obtain ⟨S, -, h2, h3, h4⟩ := strV_is l
 have h := name_any S w (by omega)
 rw [h3] at h
 rw [h2]
 exact h
theorem gdep_any (w : World) (Z : Zone) (v0 v1 : Value) (d : Dp) (h : DepAt Z w v0 v1 d) :
  Calls Tryz.prog 101 #[.agg #[v0, v1]] w (fun e w' => e = .returned (.bool (depB d)) ∧ Below w.heap.size w w') := by
 obtain ⟨rfl, hl, hg⟩ := h
 obtain ⟨S, -, h2, h3, h4⟩ := strV_is d.1
 have hN := fun W => nameV_any W d.1 hl
 rw [h2] at hN ⊢
 have hg0 := hg
 obtain ⟨a, c, rfl, -⟩ := hg0
 obtain ⟨m, hm⟩ : ∃ m, m = d.2.length := ⟨_, rfl⟩
 rw [← hm] at hg ⊢
 obtain ⟨w1, hw1, hb1, hx1, _, _⟩ := two_block w (.string S) (.slice a m c) 59
 have k0 := cOh hx1 0
 have hS := fun W (hW : Below w1.heap.size w1 W) => sgood_any W Z _ d.2 ((hg.below hb1).below hW)
 obtain ⟨R, hR⟩ : ∃ R, R = depB d := ⟨_, rfl⟩
 rw [← hR]
 unfold depB at hR
 have HX := hdL hx1; have HB := hdL hb1; have HS := hdL hS; have HR := hdL hR
 have hN1 := hN w1
 clear hx1 hb1 hS hg h2 h3 h4 hl hN hm hR
 cases hn : nameB d.1
 ·rw [hn] at hN1
  have HN := hdL hN1; have HRF := hdL (show R = false by rw [HR.out, hn]; rfl)
  clear hN1 hn
  go_enter Tryz.func101, Tryz.ntmps101
  go_wp2_with fail
  refine HN.out.mono ?_
  rintro e w2 ⟨rfl, h2⟩
  have H2 := hdL (HB.out.trans (h2.mono HB.out.size))
  clear h2
  go_wp2_with fail
  go_ret
  exact ⟨by (rw [HRF.out]; rfl), H2.out⟩
 ·rw [hn] at hN1
  have HN := hdL hN1; have HRF := hdL (show R = rangeB d.2 by rw [HR.out, hn]; rfl)
  clear hN1 hn
  go_enter Tryz.func101, Tryz.ntmps101
  go_wp2_with fail
  refine HN.out.mono ?_
  rintro e w2 ⟨rfl, h2⟩
  have H2 := hdL h2
  have k1 := cOh ((h2.block _ (loh HX.out)).trans HX.out) 1
  clear h2 k0
  go_wp2_with fail
  refine (HS.out w2 H2.out).mono ?_
  rintro e w3 ⟨rfl, h3⟩
  have H3 := hdL (HB.out.trans ((H2.out.trans (h3.mono H2.out.size)).mono HB.out.size))
  clear h3 k1
  go_wp2_with fail
  go_ret
  exact ⟨by (rw [HRF.out]; rfl), H3.out⟩
def sameB (nm : List UInt8) (c : Dp) : Bool := decide (c.1 = nm)
theorem gsame_any (w : World) (B : Nat) (nm : List UInt8) (ag : Option Addr) (m cg : Nat) (d : Dp) (hB : w.cell? ⟨B, 0, none⟩ = some (strV nm)) :
  Calls Tryz.prog 105 #[.agg #[strV d.1, .slice ag m cg], .pointer (some ⟨B, 0, none⟩)] w (fun e w' => e = .returned (.bool (sameB nm d)) ∧ Below w.heap.size w w') := by
 obtain ⟨S, -, h2, h3, -⟩ := strV_is d.1
 obtain ⟨T, -, g2, g3, -⟩ := strV_is nm
 have he := str_eqb S T d.1 nm h3 g3
 rw [h2]
 rw [g2] at hB
 obtain ⟨w1, hw1, hb1, hx1, _, _⟩ := two_block w (.string S) (.slice ag m cg) 59
 have k0 := cOh hx1 0
 have hB1 := bkp hb1 _ _ hB
 obtain ⟨R, hR⟩ : ∃ R, R = sameB nm d := ⟨_, rfl⟩
 rw [← hR]
 unfold sameB at hR
 rw [← hR] at he
 have HB := hdL hb1
 clear hx1 hb1 hB h2 h3 g2 g3 hR
 go_enter Tryz.func105, Tryz.ntmps105
 go_wp2_with fail
 go_ret
 exact ⟨by first | rfl | simp, HB.out⟩
theorem DepsAt.take {Z : Zone} {w : World} {a : Option Addr} {n c : Nat} {ds : List Dp} (h : DepsAt Z w (.slice a n c) ds) {i : Nat} (hi : i ≤ ds.length) : DepsAt Z w (.slice a i c) (ds.take i) := by
 obtain ⟨a', c', e, h2, h3⟩ := h
 obtain ⟨rfl, rfl, rfl⟩ := Value.slice.inj e
 have hl : (ds.take i).length = i := by rw [List.length_take]; omega
 refine ⟨a, c, by rw [hl], ⟨by rw [hl]; have := h2.le; omega, by rw [hl]; have := h2.max; omega, h2.cap, fun e => by rw [hl]; have := h2.nil e; omega⟩, fun hne => ?_⟩
 obtain ⟨b, o, g0, g1, g2, g3⟩ := h3 (fun e => by rw [e] at hne; simp at hne)
 refine ⟨b, o, g0, g1, g2, fun j d hj => g3 j d ?_⟩
 rw [List.getElem?_take] at hj
 split at hj
 ·exact hj
 ·cases hj
theorem didx_any (w : World) (Z : Zone) (v : Value) (ds : List Dp) (h : DepsAt Z w v ds) (B : Nat) (nm : List UInt8) (hB : w.cell? ⟨B, 0, none⟩ = some (strV nm)) :
  Calls Tryz.prog 138 #[v, .func (.func 105) #[] #[.pointer (some ⟨B, 0, none⟩)]] w (fun e w' => (∃ i : Int, e = .returned (.int .i64 i) ∧ decide (0 ≤ i) = ds.any (sameB nm)) ∧ Below w.heap.size w w') := by
 obtain ⟨a, c, rfl, hb, hc⟩ := h
 obtain ⟨n, hnn⟩ : ∃ n, n = ds.length := ⟨_, rfl⟩
 obtain ⟨R, hR⟩ : ∃ R, R = ds.any (sameB nm) := ⟨_, rfl⟩
 rw [← hR]
 rw [← hnn] at hb ⊢
 have hnl : n ≤ 8796093022208 := hb.max
 have HN := hdL hnn; have HR := hdL hR; have HC := hdL hc; have HQ := hdL hB
 clear hnn hR hc hb hB
 go_enter Tryz.func138, Tryz.ntmps138
 go_wp2_with fail
 go_loopw [8] (fun x wr => ∃ k : Nat, x = .int .i64 k ∧ k ≤ n ∧ Hid ((ds.take k).any (sameB nm) = false) ∧ Hid (Below w.heap.size w wr)) (fun x _ => n - (intOf x).toNat)
 case atStart => exact ⟨0, rfl, Nat.zero_le _, rfl, Below.refl _ _⟩
 case round =>
  obtain ⟨k, rfl, hkn, hno, hbw⟩ := hrel
  by_cases hlt : k < n
  ·obtain ⟨d, hd⟩ : ∃ d, ds[k]? = some d := ⟨_, gEg (by rw [← HN.out]; exact hlt)⟩
   obtain ⟨b, o, rfl, _, _, hcs⟩ := HC.out (fun e => by rw [e] at hd; cases hd)
   obtain ⟨v0, v1, c0, c1, hda⟩ := hcs k d hd
   have c0 := bkp hbw.out _ _ c0
   have c1 := bkp hbw.out _ _ c1
   obtain ⟨rfl, -, ag, cg, rfl, -⟩ := hda
   have hcl := gsame_any wr B nm ag d.2.length cg d (bkp hbw.out _ _ HQ.out)
   obtain ⟨S, -, h2, -, -⟩ := strV_is d.1
   obtain ⟨m, hm⟩ : ∃ m, m = d.2.length := ⟨_, rfl⟩
   rw [h2] at c0 hcl
   rw [← hm] at c1 hcl
   have HD := hdL hd
   clear hcs hd h2 hm
   cases hp : sameB nm d
   ·rw [hp] at hcl
    have HCL := hdL hcl; have HNO := hdL (any_takes hno.out HD.out hp)
    clear hcl hp
    go_wp2_with fail
    refine HCL.out.mono ?_
    rintro e w3 ⟨rfl, h3⟩
    have H3 := hdL (hbw.out.trans (h3.mono hbw.out.size))
    clear h3
    go_wp2_with fail
    go_roundw
    case rel => exact ⟨k + 1, by go_num, hlt, HNO, H3⟩
    case measure => simp [intOf]; omega
   ·rw [hp] at hcl
    have HCL := hdL hcl; have HY := hdL (show R = true by rw [HR.out]; exact any_yes HD.out hp)
    clear hcl hp
    go_wp2_with fail
    refine HCL.out.mono ?_
    rintro e w3 ⟨rfl, h3⟩
    have H3 := hdL (hbw.out.trans (h3.mono hbw.out.size))
    clear h3
    go_wp2_with fail
    go_ret
    exact ⟨⟨k, rfl, by rw [HY.out]; simp⟩, H3.out⟩
  ·obtain rfl : k = n := by omega
   have HY := hdL (show R = false by
    have := hno.out
    rw [tLe (by rw [← HN.out]; omega)] at this
    rw [HR.out]; exact this)
   go_wp2_with fail
   go_ret
   exact ⟨⟨-1, rfl, by rw [HY.out]; rfl⟩, hbw.out⟩
theorem dcon_any (w : World) (Z : Zone) (v : Value) (ds : List Dp) (h : DepsAt Z w v ds) (B : Nat) (nm : List UInt8) (hB : w.cell? ⟨B, 0, none⟩ = some (strV nm)) :
  Calls Tryz.prog 104 #[v, .func (.func 105) #[] #[.pointer (some ⟨B, 0, none⟩)]] w (fun e w' => e = .returned (.bool (ds.any (sameB nm))) ∧ Below w.heap.size w w') := by
 have HI := hdL (didx_any w Z v ds h B nm hB)
 clear h hB
 go_enter Tryz.func104, Tryz.ntmps104
 go_wp2_with fail
 refine HI.out.mono ?_
 rintro e w3 ⟨⟨i, rfl, hi⟩, h3⟩
 have H3 := hdL h3; have HE := hdL hi
 clear h3 hi
 go_wp2_with fail
 go_ret
 exact ⟨by (rw [← HE.out]; rfl), H3.out⟩
theorem deps_bad {ds : List Dp} {k : Nat} {d : Dp} (hd : ds[k]? = some d) (h : depB d = false) : depsB ds = false := by
 have : ds.all depB = false := by
  rw [List.all_eq_false]
  exact ⟨d, List.mem_of_getElem? hd, by rw [h]; simp⟩
 unfold depsB
 rw [this, Bool.false_and, Bool.and_false]
theorem deps_twice {ds : List Dp} {k : Nat} {d : Dp} (hd : ds[k]? = some d) (h : (ds.take k).any (sameB d.1) = true) : depsB ds = false := by
 have : decide ((ds.map Prod.fst).Nodup) = false := by
  refine decide_eq_false fun hn => ?_
  obtain ⟨c, hc, he⟩ := List.any_eq_true.1 h
  have he : c.1 = d.1 := by simpa [sameB] using he
  obtain ⟨j, hj⟩ := List.mem_iff_getElem?.1 hc
  rw [List.getElem?_take] at hj
  split at hj
  ·rename_i hjk
   have e1 : (ds.map Prod.fst)[j]? = (ds.map Prod.fst)[k]? := by rw [List.getElem?_map, List.getElem?_map, hj, hd]; simp [he]
   have := (List.getElem?_inj (by rw [List.length_map]; exact (gEs.1 hj).1) hn).1 e1
   omega
  ·cases hj
 unfold depsB
 rw [this, Bool.and_false, Bool.and_false]
theorem nodup_next {ds : List Dp} {k : Nat} {d : Dp} (hd : ds[k]? = some d) (hn : ((ds.take k).map Prod.fst).Nodup) (h : (ds.take k).any (sameB d.1) = false) : ((ds.take (k + 1)).map Prod.fst).Nodup := by
 rw [List.take_add_one, hd, List.map_append]
 refine List.nodup_append.2 ⟨hn, by simp, ?_⟩
 intro a ha b hb e
 simp at hb
 subst hb; subst e
 obtain ⟨c, hc, he⟩ := List.mem_map.1 ha
 have := (List.any_eq_false.1 h) c hc
 simp [sameB, he] at this
theorem all_next2 {ds : List Dp} {k : Nat} {d : Dp} (hd : ds[k]? = some d) (ha : (ds.take k).all depB = true) (h : depB d = true) : (ds.take (k + 1)).all depB = true := by
 rw [List.take_add_one, hd, List.all_append, ha]
 simp [h]
theorem glist_any (w : World) (Z : Zone) (v : Value) (ds : List Dp) (h : DepsAt Z w v ds) (D : Nat) (hD : w.cell? ⟨D, 0, none⟩ = some (.func (.func 101) #[] #[])) :
  Calls Tryz.prog 103 #[v, .pointer (some ⟨D, 0, none⟩)] w (fun e w' => e = .returned (.bool (depsB ds)) ∧ Below w.heap.size w w') := by
 have h0 := h
 obtain ⟨a, c, rfl, hb, hc⟩ := h0
 obtain ⟨n, hnn⟩ : ∃ n, n = ds.length := ⟨_, rfl⟩
 obtain ⟨R, hR⟩ : ∃ R, R = depsB ds := ⟨_, rfl⟩
 rw [← hR]
 rw [← hnn] at hb h ⊢
 have hnl : n ≤ 8796093022208 := hb.max
 have hnc : n ≤ c := hb.le
 have HN := hdL hnn; have HR := hdL hR; have HC := hdL hc; have HD := hdL hD; have HH := hdL h
 clear hnn hR hc hb hD h
 go_enter Tryz.func103, Tryz.ntmps103
 go_wp2_with fail
 go_loopw [8] (fun x wr => ∃ k : Nat, x = .int .i64 k ∧ k ≤ n ∧ Hid ((ds.take k).all depB = true) ∧ Hid (((ds.take k).map Prod.fst).Nodup) ∧ Hid (Below w.heap.size w wr)) (fun x _ => n - (intOf x).toNat)
 case atStart => exact ⟨0, rfl, Nat.zero_le _, rfl, List.nodup_nil, Below.refl _ _⟩
 case round =>
  obtain ⟨k, rfl, hkn, hall, hnd, hbw⟩ := hrel
  by_cases hlt : k < n
  ·obtain ⟨d, hd⟩ : ∃ d, ds[k]? = some d := ⟨_, gEg (by rw [← HN.out]; exact hlt)⟩
   obtain ⟨b, o, rfl, -, -, hcs⟩ := HC.out (fun e => by rw [e] at hd; cases hd)
   obtain ⟨v0, v1, c0, c1, hda⟩ := hcs k d hd
   have c0 := bkp hbw.out _ _ c0
   have c1 := bkp hbw.out _ _ c1
   have hda := hda.below hbw.out
   have hda2 := hda
   obtain ⟨rfl, -, ag, cg, rfl, -⟩ := hda2
   obtain ⟨S, -, h2, -, -⟩ := strV_is d.1
   obtain ⟨m, hm⟩ : ∃ m, m = d.2.length := ⟨_, rfl⟩
   obtain ⟨nm, hnm⟩ : ∃ nm, nm = d.1 := ⟨_, rfl⟩
   rw [h2, ← hm] at hda
   rw [h2] at c0
   rw [← hm] at c1
   obtain ⟨w3, hw3, hb3, hx3, _, _⟩ := two_block wr (.string S) (.slice ag m cg) 59
   obtain ⟨k0, k1⟩ := cells2 hx3
   have hdf := bkp (hbw.out.trans (hb3.mono hbw.out.size)) _ _ HD.out
   have hg := gdep_any w3 Z _ _ d (hda.below hb3)
   have HDD := hdL hd; have HX3 := hdL hx3; have HB3 := hdL (hbw.out.trans (hb3.mono hbw.out.size)); have H2 := hdL h2
   have htk : k ≤ ds.length := by rw [← HN.out]; exact hkn
   clear hcs hd hda hb3 hx3 h2 hm
   cases hdb : depB d
   ·rw [hdb] at hg
    have HG := hdL hg; have HF := hdL (show R = false by rw [HR.out]; exact deps_bad HDD.out hdb)
    clear hg hdb htk
    go_wp2_with fail
    refine HG.out.mono ?_
    rintro e w4 ⟨rfl, h4⟩
    have H4 := hdL (HB3.out.trans (h4.mono HB3.out.size))
    clear h4
    go_wp2_with fail
    go_ret
    exact ⟨by (rw [HF.out]; rfl), H4.out⟩
   ·rw [hdb] at hg
    have HG := hdL hg; have HDB := hdL hdb
    clear hg hdb
    go_wp2_with fail
    refine HG.out.mono ?_
    rintro e w4 ⟨rfl, h4⟩
    have h04 := HB3.out.trans (h4.mono HB3.out.size)
    have hx4 := (h4.block _ (loh HX3.out)).trans HX3.out
    have hk4 : w4.cell? ⟨wr.heap.size, 0, none⟩ = some (strV d.1) := by rw [H2.out]; exact cOh hx4 0
    have hcon := dcon_any w4 Z _ (ds.take k) ((HH.out.below h04).take htk) wr.heap.size d.1 hk4
    have H4 := hdL h04
    have hkc : k ≤ c := by omega
    cases hp : (ds.take k).any (sameB d.1)
    ·rw [hp] at hcon
     have HCO := hdL hcon; have HND := hdL (nodup_next HDD.out hnd.out hp); have HAL := hdL (all_next2 HDD.out hall.out HDB.out)
     clear hcon hp hk4 hx4 h4 h04 k0 k1
     go_wp2_with fail
     refine HCO.out.mono ?_
     rintro e w5 ⟨rfl, h5⟩
     have H5 := hdL (H4.out.trans (h5.mono H4.out.size))
     clear h5
     go_wp2_with fail
     go_roundw
     case rel => exact ⟨k + 1, by go_num, hlt, HAL, HND, H5⟩
     case measure => simp [intOf]; omega
    ·rw [hp] at hcon
     have HCO := hdL hcon; have HF := hdL (show R = false by rw [HR.out]; exact deps_twice HDD.out hp)
     clear hcon hp hk4 hx4 h4 h04 k0 k1
     go_wp2_with fail
     refine HCO.out.mono ?_
     rintro e w5 ⟨rfl, h5⟩
     have H5 := hdL (H4.out.trans (h5.mono H4.out.size))
     clear h5
     go_wp2_with fail
     go_ret
     exact ⟨by (rw [HF.out]; rfl), H5.out⟩
  ·obtain rfl : k = n := by omega
   have h1 := hall.out; have h2 := hnd.out
   rw [tLe (by rw [← HN.out]; exact Nat.le_refl _)] at h1 h2
   have HF := hdL (show R = decide (k ≤ 8) by rw [HR.out]; unfold depsB; rw [h1, decide_eq_true h2, ← HN.out]; simp)
   clear h1 h2
   by_cases h8 : k ≤ 8
   ·have h8' : (k : Int) ≤ 8 := by omega
    go_wp2_with fail
    go_ret
    exact ⟨by (rw [HF.out, decide_eq_true h8]; first | rfl | simp), hbw.out⟩
   ·have h8' : ¬ (k : Int) ≤ 8 := by omega
    go_wp2_with fail
    go_ret
    exact ⟨by (rw [HF.out, decide_eq_false h8]; first | rfl | simp), hbw.out⟩
theorem RecAt.shape {Z : Zone} {w : World} {vs : List Value} {r : Rc} (h : RecAt Z w vs r) : ∃ (s t : ByteArray) (a1 : Option Addr) (n1 c1 : Nat) (a2 : Option Addr) (n2 c2 : Nat) (a3 : Option Addr) (n3 c3 : Nat),
  vs = [.string s, .int .i64 r.pkg.2.1, .int .i64 r.pkg.2.2.1, .int .i64 r.pkg.2.2.2, .string t, .slice a1 n1 c1, .slice a2 n2 c2, .slice a3 n3 c3] ∧
  strV r.pkg.1 = .string s ∧ r.pkg.1.length ≤ 140737488351232 ∧ DepAt Z w (.string t) (.slice a1 n1 c1) r.tool ∧ DepsAt Z w (.slice a2 n2 c2) r.build ∧ DepsAt Z w (.slice a3 n3 c3) r.run := by
 obtain ⟨t0, t1, b0, r0, rfl, hl, h1, h2, h3⟩ := h
 obtain ⟨S, -, e1, -, -⟩ := strV_is r.pkg.1
 have h1' := h1; have h2' := h2; have h3' := h3
 obtain ⟨rfl, -, a1, c1, rfl, -⟩ := h1'
 obtain ⟨a2, c2, rfl, -⟩ := h2'
 obtain ⟨a3, c3, rfl, -⟩ := h3'
 obtain ⟨T, -, e2, -, -⟩ := strV_is r.tool.1
 rw [e2] at h1 ⊢
 exact ⟨S, T, a1, _, c1, a2, _, c2, a3, _, c3, by rw [e1], e1, hl, h1, h2, h3⟩
theorem sgoodR_any (w : World) (Z : Zone) (vs : List Value) (r : Rc) (h : RecAt Z w vs r) : Calls Tryz.prog 62 #[.agg vs.toArray] w (fun e w' => e = .returned (.bool (goodRc r)) ∧ Below w.heap.size w w') := by
 obtain ⟨s, t, a1, n1, c1, a2, n2, c2, a3, n3, c3, rfl, hs, hl, h1, h2, h3⟩ := h.shape
 obtain ⟨R, hR⟩ : ∃ R, R = goodRc r := ⟨_, rfl⟩
 rw [← hR]
 unfold goodRc pkgB at hR
 have hN := fun W => nameV_any W r.pkg.1 hl
 rw [hs] at hN
 have hV := fun W => vgood_any W r.pkg.2
 obtain ⟨x, hx⟩ : ∃ x, x = r.pkg.2.1 := ⟨_, rfl⟩
 obtain ⟨y, hy⟩ : ∃ x, x = r.pkg.2.2.1 := ⟨_, rfl⟩
 obtain ⟨z, hz⟩ : ∃ x, x = r.pkg.2.2.2 := ⟨_, rfl⟩
 rw [← hx, ← hy, ← hz] at hV ⊢
 obtain ⟨w1, hw1, hb1, hx1, y1, y2⟩ := aBk w #[.string s, .int .i64 x, .int .i64 y, .int .i64 z, .string t, .slice a1 n1 c1, .slice a2 n2 c2, .slice a3 n3 c3] 62
 obtain ⟨w2, hw2, hb2, hx2, y3, y4⟩ := one_block w1 (.func (.func 101) #[] #[]) 165
 obtain ⟨B, hB⟩ : ∃ B, w.heap.size = B := ⟨_, rfl⟩
 obtain ⟨D, hD⟩ : ∃ D, w1.heap.size = D := ⟨_, rfl⟩
 have hb12 := hb1.trans (hb2.mono hb1.size)
 have hx12 := (hb2.block _ (by omega)).trans hx1
 rw [hB] at hx12; rw [hD] at hx2
 have hkeep : ∀ W, Below w2.heap.size w2 W → W.heap[B]? = some (.cells #[.string s, .int .i64 x, .int .i64 y, .int .i64 z, .string t, .slice a1 n1 c1, .slice a2 n2 c2, .slice a3 n3 c3] 62 (0, 0)) ∧ W.heap[D]? = some (.cells #[.func (.func 101) #[] #[]] 165 (0, 0)) := fun W hW =>
  ⟨(hW.block _ (loh hx12)).trans hx12, (hW.block _ (loh hx2)).trans hx2⟩
 have hG := fun W (hW : Below w2.heap.size w2 W) => gdep_any W Z _ _ r.tool ((h1.below hb12).below hW)
 have hL := fun W (hW : Below w2.heap.size w2 W) => glist_any W Z _ r.build ((h2.below hb12).below hW) D (cOh (hkeep W hW).2 0)
 have hM := fun W (hW : Below w2.heap.size w2 W) => glist_any W Z _ r.run ((h3.below hb12).below hW) D (cOh (hkeep W hW).2 0)
 have HB := hdL hb12; have HKEEP := hdL hkeep; have HG := hdL hG; have HL := hdL hL; have HM := hdL hM; have HR := hdL hR; have HV := hdL hV
 have hEND : ∀ W, Below w2.heap.size w2 W → Below w.heap.size w W := fun W h => HB.out.trans (h.mono HB.out.size)
 have HEND := hdL hEND
 have hN1 := hN w2
 have k0 := cOh (hkeep w2 (Below.refl _ _)).1 0
 clear h h1 h2 h3 hb1 hb2 hb12 hx1 hx2 hx12 hkeep hG hL hM hN hs hl hx hy hz hR hV y1 y2 y3 y4 hEND
 cases e1 : nameB r.pkg.1
 ·rw [e1] at hN1
  have HN := hdL hN1; have HF := hdL (show R = false by rw [HR.out, e1]; rfl)
  clear hN1 e1
  go_enter Tryz.func62, Tryz.ntmps62
  go_wp2_with fail
  refine HN.out.mono ?_
  rintro e w3 ⟨rfl, h3⟩
  have H3 := hdL h3
  clear h3 k0
  go_wp2_with fail
  go_ret
  exact ⟨by (rw [HF.out]; rfl), HEND.out _ H3.out⟩
 rw [e1] at hN1
 have HN := hdL hN1; have E1 := hdL e1
 clear hN1 e1
 go_enter Tryz.func62, Tryz.ntmps62
 go_wp2_with fail
 refine HN.out.mono ?_
 rintro e w3 ⟨rfl, h3⟩
 have H3 := hdL h3
 have hk := HKEEP.out w3 h3
 have k1 := cOh hk.1 1
 have k2 := cOh hk.1 2
 have k3 := cOh hk.1 3
 have hV3 := HV.out w3
 clear h3 k0 hk
 cases e2 : verGood r.pkg.2
 ·rw [e2] at hV3
  have HV3 := hdL hV3; have HF := hdL (show R = false by rw [HR.out, E1.out, e2]; rfl)
  clear hV3 e2
  go_wp2_with fail
  refine HV3.out.mono ?_
  rintro e w4 ⟨rfl, h4⟩
  have H4 := hdL (H3.out.trans (h4.mono H3.out.size))
  clear h4 k1 k2 k3
  go_wp2_with fail
  go_ret
  exact ⟨by (rw [HF.out]; rfl), HEND.out _ H4.out⟩
 rw [e2] at hV3
 have HV3 := hdL hV3; have E2 := hdL e2
 clear hV3 e2
 go_wp2_with fail
 refine HV3.out.mono ?_
 rintro e w4 ⟨rfl, h4⟩
 have H4 := hdL (H3.out.trans (h4.mono H3.out.size))
 have hk := HKEEP.out w4 H4.out
 have k4 := cOh hk.1 4
 have k5 := cOh hk.1 5
 have kd := cOh hk.2 0
 have hG4 := HG.out w4 H4.out
 clear h4 k1 k2 k3 hk
 cases e3 : depB r.tool
 ·rw [e3] at hG4
  have HG4 := hdL hG4; have HF := hdL (show R = false by rw [HR.out, E1.out, E2.out, e3]; rfl)
  clear hG4 e3
  go_wp2_with fail
  refine HG4.out.mono ?_
  rintro e w5 ⟨rfl, h5⟩
  have H5 := hdL (H4.out.trans (h5.mono H4.out.size))
  clear h5 k4 k5 kd
  go_wp2_with fail
  go_ret
  exact ⟨by (rw [HF.out]; rfl), HEND.out _ H5.out⟩
 rw [e3] at hG4
 have HG4 := hdL hG4; have E3 := hdL e3
 clear hG4 e3
 go_wp2_with fail
 refine HG4.out.mono ?_
 rintro e w5 ⟨rfl, h5⟩
 have H5 := hdL (H4.out.trans (h5.mono H4.out.size))
 have k6 := cOh (HKEEP.out w5 H5.out).1 6
 have hL5 := HL.out w5 H5.out
 clear h5 k4 k5 kd
 cases e4 : depsB r.build
 ·rw [e4] at hL5
  have HL5 := hdL hL5; have HF := hdL (show R = false by rw [HR.out, E1.out, E2.out, E3.out, e4]; rfl)
  clear hL5 e4
  go_wp2_with fail
  refine HL5.out.mono ?_
  rintro e w6 ⟨rfl, h6⟩
  have H6 := hdL (H5.out.trans (h6.mono H5.out.size))
  clear h6 k6
  go_wp2_with fail
  go_ret
  exact ⟨by (rw [HF.out]; rfl), HEND.out _ H6.out⟩
 rw [e4] at hL5
 have HL5 := hdL hL5
 have HF := hdL (show R = depsB r.run by rw [HR.out, E1.out, E2.out, E3.out, e4]; rfl)
 clear hL5 e4
 go_wp2_with fail
 refine HL5.out.mono ?_
 rintro e w6 ⟨rfl, h6⟩
 have H6 := hdL (H5.out.trans (h6.mono H5.out.size))
 have k7 := cOh (HKEEP.out w6 H6.out).1 7
 have HM6 := hdL (HM.out w6 H6.out)
 clear h6 k6
 go_wp2_with fail
 refine HM6.out.mono ?_
 rintro e w7 ⟨rfl, h7⟩
 have H7 := hdL (H6.out.trans (h7.mono H6.out.size))
 clear h7 k7
 go_wp2_with fail
 go_ret
 exact ⟨by (rw [HF.out]; rfl), HEND.out _ H7.out⟩
def zNew (n : Nat) : Zone := fun b => n ≤ b
def zLt (n : Nat) : Zone := fun b => b < n
def gapsV (gs : List Gap) : List Value := gs.flatMap fun g => [.int .i64 g.1, .int .i64 g.2]
theorem gapsV_length (gs : List Gap) : (gapsV gs).length = gs.length * 2 := by
 induction gs with
 | nil => rfl
 | cons g gs ih => simp only [gapsV, List.flatMap_cons, lAp, List.length_cons, List.length_nil] at ih ⊢; omega
theorem gapsV_one (gs : List Gap) : ∀ u ∈ gapsV gs, u.oneCell' = true := by
 intro u hu
 obtain ⟨g, _, hg⟩ := List.mem_flatMap.1 hu
 simp at hg
 rcases hg with rfl | rfl <;> rfl
theorem gapsV_at {gs : List Gap} : ∀ {i : Nat} {g : Gap}, gs[i]? = some g → (gapsV gs)[i * 2]? = some (.int .i64 g.1) ∧ (gapsV gs)[i * 2 + 1]? = some (.int .i64 g.2) := by
 induction gs with
 | nil => intro i g h; cases h
 | cons x gs ih =>
  intro i g h
  cases i with
  | zero =>
   obtain rfl := sIj h
   exact ⟨rfl, rfl⟩
  | succ i =>
   have := ih (i := i) (by simpa using h)
   rw [show (i + 1) * 2 = i * 2 + 2 from by omega, show i * 2 + 2 + 1 = i * 2 + 1 + 2 from by omega]
   simpa [gapsV] using this
theorem gapsV_get {gs : List Gap} {j : Nat} {u : Value} (h : (gapsV gs)[j]? = some u) : ∃ i g, gs[i]? = some g ∧ ((j = i * 2 ∧ u = .int .i64 g.1) ∨ (j = i * 2 + 1 ∧ u = .int .i64 g.2)) := by
 have hj := (gEs.1 h).1
 rw [gapsV_length] at hj
 obtain ⟨g, hg⟩ : ∃ g, gs[j / 2]? = some g := ⟨_, gEg (by omega)⟩
 obtain ⟨h1, h2⟩ := gapsV_at hg
 refine ⟨j / 2, g, hg, ?_⟩
 by_cases e : j = j / 2 * 2
 ·rw [← e, h] at h1
  exact .inl ⟨e, sIj h1⟩
 ·have e : j = j / 2 * 2 + 1 := by omega
  rw [← e, h] at h2
  exact .inr ⟨e, sIj h2⟩
theorem GapsAt.src {Z : Zone} {w : World} {v : Value} {gs : List Gap} (h : GapsAt Z w v gs) : Src Tryz.prog 2 57 v gs.length (gapsV gs) w := by
 obtain ⟨a, c, rfl, h1, h2⟩ := h
 cases a with
 | none =>
  obtain ⟨e1, rfl⟩ := h1.nil rfl
  obtain rfl : gs = [] := eN0 e1
  exact Src.ofNil w Tryz.underlying57 0
 | some ad =>
  refine Src.ofSlice w Tryz.underlying57 ad gs.length c (gapsV gs) (gapsV_length gs) (fun j u hj => ?_) (gapsV_one gs)
  obtain ⟨i, g, hg, hu⟩ := gapsV_get hj
  obtain ⟨b, o, e, _, _, h3⟩ := h2 (fun e => by rw [e] at hg; cases hg)
  obtain rfl := sIj e
  obtain ⟨h4, h5⟩ := h3 i g hg
  rw [Addr.add_lit]
  rcases hu with ⟨rfl, rfl⟩ | ⟨rfl, rfl⟩
  ·exact h4
  ·exact h5
theorem owns_shape {w : World} {base n : Nat} {e : TypeId} {sz : Nat} {v : Value} {xs : List Value} (h : w.ownsRow base e sz v n xs) (hn : n ≤ 8796093022208) : ∃ a c, v = .slice a n c ∧ Bnd n c a ∧ (n ≠ 0 → ∃ g, a = some ⟨g, 0, none⟩ ∧ base ≤ g ∧ g < w.heap.size ∧ ∀ (j : Nat) u, xs[j]? = some u → w.cell? ⟨g, j, none⟩ = some u) := by
 rcases h.2 with ⟨rfl, rfl⟩ | ⟨g, cap, cur, rfl, h1, hg, h2, h3, _, ht⟩
 ·exact ⟨none, 0, rfl, ⟨Nat.le_refl _, hn, Nat.zero_le _, fun _ => ⟨rfl, rfl⟩⟩, fun h => absurd rfl h⟩
 ·refine ⟨_, _, rfl, ⟨h2, hn, h3, fun e => by cases e⟩, fun _ => ⟨g, rfl, h1, loh hg, fun j u hj => ?_⟩⟩
  rw [cOh hg]
  rw [← ht, List.getElem?_take] at hj
  split at hj
  ·rw [← Array.getElem?_toList]; exact hj
  ·cases hj
theorem owns_gaps {w : World} {base : Nat} {v : Value} {gs : List Gap} (h : w.ownsRow base 125 2 v gs.length (gapsV gs)) (hn : gs.length ≤ 8796093022208) : GapsAt (zNew base) w v gs := by
 obtain ⟨a, c, rfl, hb, hc⟩ := owns_shape h hn
 refine ⟨a, c, rfl, hb, fun hne => ?_⟩
 obtain ⟨g, rfl, h1, h2, h3⟩ := hc (fun e => hne (eN0 e))
 refine ⟨g, 0, rfl, h1, h2, fun i x hi => ?_⟩
 obtain ⟨g1, g2⟩ := gapsV_at hi
 rw [Nat.zero_add]
 exact ⟨h3 _ _ g1, h3 _ _ g2⟩
theorem infoGap : (Tryz.prog.info? 125).map (fun i => (i.zero, i.size, i.bytes)) = some (some (.agg #[.int .i64 0, .int .i64 0]), 2, 16) := by kernel_rfl
theorem infoDep : (Tryz.prog.info? 59).map (fun i => (i.zero, i.size, i.bytes)) = some (some (.agg #[.string ByteArray.empty, .slice none 0 0]), 2, 40) := by kernel_rfl
theorem owns_none (W : World) (t : TypeId) (sz : Nat) (h : 0 < sz) : (W.alloc (.cells #[] t)).ownsRow W.heap.size t sz (.slice (some ⟨W.heap.size, 0, none⟩) 0 0) 0 [] :=
 ⟨by simp, .inr ⟨W.heap.size, 0, #[], rfl, Nat.le_refl _, heap_alloc_new W _, Nat.le_refl _, by unfold maxLen; omega, by simp, by simp⟩⟩
def CloneG (w : World) (gs : List Gap) (e : Ending) (w' : World) : Prop := ∃ a c, e = .returned (.slice a gs.length c) ∧ GapsAt (zNew w.heap.size) w' (.slice a gs.length c) gs ∧ Below w.heap.size w w'
theorem gclone_any (w : World) (Z : Zone) (v : Value) (gs : List Gap) (h : GapsAt Z w v gs) (hl : gs.length ≤ 1000000) :
  Calls Tryz.prog 108 #[v] w (CloneG w gs) := by
 have hq := fun (w : World) (a : Option Addr) (n c : Nat) => Lib.run_eql_slice_nil (P := Tryz.prog) w 57 125 a n c 0 0 Tryz.underlying57
 have h0 := h
 obtain ⟨a, c, rfl, hb, -⟩ := h0
 cases a with
 | none =>
  obtain ⟨h1, rfl⟩ := hb.nil rfl
  obtain rfl : gs = [] := eN0 h1
  clear h hb h1
  go_enter Tryz.func108, Tryz.ntmps108
  go_wp2
  go_ret
  exact ⟨none, 0, rfl, ⟨none, 0, rfl, ⟨Nat.le_refl _, Nat.zero_le _, Nat.zero_le _, fun _ => ⟨rfl, rfl⟩⟩, fun h => absurd rfl h⟩, Below.refl _ _⟩
 | some ad =>
  have hb1 : Below w.heap.size w (w.alloc (.cells #[] 125)) := (Below.refl _ w).alloc (Nat.le_refl _) _
  have hsrc := (h.below hb1).src
  obtain ⟨i0, hi, hz0, hz1, hz2⟩ := info_parts infoGap
  have HB1 := hdL hb1; have HL := hdL hl
  obtain ⟨n, hn⟩ : ∃ n, n = gs.length := ⟨_, rfl⟩
  rw [← hn] at hsrc hl ⊢
  unfold CloneG
  rw [← hn]
  have HN := hdL hn
  clear h hb1 hb hn
  go_enter Tryz.func108, Tryz.ntmps108
  go_wp2_with (at_builtin; refine wpList_append_srcs rfl (.tmp 5) (.tmp 6) 57 57 rfl w.heap.size 125 i0 _ 2 16 Tryz.underlying57 hi hz0 hz1 hz2 rfl (by decide) (.slice (some ⟨w.heap.size, 0, none⟩) 0 0) rfl 0 [] (owns_none w 125 2 (by decide)) (.slice (some ad) n c) rfl _ _ hsrc (by unfold maxLen; omega) (by omega) (by simp) ?_; intro a' c' w' hown hgrow hnil _; simp only [Nat.zero_add, List.nil_append] at hown)
  go_wp2
  go_ret
  refine ⟨a', c', rfl, ?_, HB1.out.grown hgrow HB1.out.size (fun k e => Nat.le_of_eq (show w.heap.size = k from sIj e))⟩
  rw [HN.out] at hown ⊢
  exact owns_gaps hown (by have := HL.out; omega)
def DepsI (P : Nat → Zone) (w : World) (ds : List Dp) (xs : List Value) : Prop := ∀ i d, ds[i]? = some d → ∃ v0 v1, xs[i * 2]? = some v0 ∧ xs[i * 2 + 1]? = some v1 ∧ DepAt (P i) w v0 v1 d
theorem DepsI.keep {P Q : Nat → Zone} {w w' : World} {ds : List Dp} {xs : List Value} (h : DepsI P w ds xs) (hk : ∀ i, Keep (P i) (Q i) w w') : DepsI Q w' ds xs := by
 intro i d hi
 obtain ⟨v0, v1, h0, h1, h2⟩ := h i d hi
 exact ⟨v0, v1, h0, h1, h2.keep (hk i)⟩
theorem deps_row {Z : Zone} {w : World} {b : Nat} : ∀ {ds : List Dp} {o : Nat}, (∀ i d, ds[i]? = some d → ∃ v0 v1, w.cell? ⟨b, o + i * 2, none⟩ = some v0 ∧ w.cell? ⟨b, o + i * 2 + 1, none⟩ = some v1 ∧ DepAt Z w v0 v1 d) →
  ∃ xs : List Value, xs.length = ds.length * 2 ∧ DepsI (fun _ => Z) w ds xs ∧ (∀ u ∈ xs, u.oneCell' = true) ∧ ∀ (j : Nat) u, xs[j]? = some u → w.cell? ⟨b, o + j, none⟩ = some u
 | [], o, _ => ⟨[], rfl, (fun i d h => by cases h), (fun u h => by cases h), (fun j u h => by cases h)⟩
 | d :: ds, o, h => by
  obtain ⟨v0, v1, c0, c1, hd⟩ := h 0 d rfl
  obtain ⟨xs, h1, h2, h3, h4⟩ := deps_row (ds := ds) (o := o + 2) (fun i e hi => by
   have := h (i + 1) e (by simpa using hi)
   rwa [show o + (i + 1) * 2 = o + 2 + i * 2 from by omega] at this)
  refine ⟨v0 :: v1 :: xs, by simp only [List.length_cons, h1]; omega, ?_, ?_, ?_⟩
  ·intro i e hi
   cases i with
   | zero =>
    obtain rfl := sIj hi
    exact ⟨v0, v1, rfl, rfl, hd⟩
   | succ i =>
    obtain ⟨u0, u1, g0, g1, g2⟩ := h2 i e (by simpa using hi)
    refine ⟨u0, u1, ?_, ?_, g2⟩
    ·rw [show (i + 1) * 2 = i * 2 + 2 from by omega]; simpa using g0
    ·rw [show (i + 1) * 2 + 1 = i * 2 + 1 + 2 from by omega]; simpa using g1
  ·intro u hu
   rcases List.mem_cons.1 hu with rfl | hu
   ·rw [hd.1]; rfl
   ·rcases List.mem_cons.1 hu with rfl | hu
    ·obtain ⟨_, _, a, c, rfl, _⟩ := hd
     rfl
    ·exact h3 u hu
  ·intro j u hj
   match j, hj with
   | 0, hj =>
    obtain rfl := sIj hj
    simpa using c0
   | 1, hj =>
    obtain rfl := sIj (show some v1 = some u from hj)
    simpa using c1
   | j + 2, hj =>
    have := h4 j u (by simpa using hj)
    rwa [show o + 2 + j = o + (j + 2) from by omega] at this
end Go.Proofs.YtaagkndhgicifaaGreat
