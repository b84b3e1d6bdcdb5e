/- DERIVED. The reference's stock: Has, Seed, Add, walked. (Printed by a program.) -/
import Derived.Test.YtaagkndhgicifaaGreatSv12
namespace Go.Proofs.YtaagkndhgicifaaGreat
set_option maxHeartbeats 32000000
open Go.RowKit
set_option linter.unusedVariables false
set_option linter.unusedSimpArgs false
set_option maxRecDepth 100000
theorem RRecP.shape {st : St} {p : Pk} {Z : Zone} {w : World} {e : Ending} {w' : World} (h : RRecP st p Z w e w') : ∃ (s : ByteArray) (x y z : Int) (t : ByteArray) (a1 : Option Addr) (n1 c1 : Nat) (a2 : Option Addr) (n2 c2 : Nat) (a3 : Option Addr) (n3 c3 : Nat) (b : Bool),
  e = .returned (.tuple #[.agg #[.string s, .int .i64 x, .int .i64 y, .int .i64 z, .string t, .slice a1 n1 c1, .slice a2 n2 c2, .slice a3 n3 c3], .bool b]) ∧ b = (st.rec? p).isSome ∧ Below w.heap.size w w' ∧
  (∀ r, st.rec? p = some r → RecAt Z w' [.string s, .int .i64 x, .int .i64 y, .int .i64 z, .string t, .slice a1 n1 c1, .slice a2 n2 c2, .slice a3 n3 c3] r) := by
 obtain ⟨vs, b, rfl, hb, ⟨r, hr, rfl, hat⟩ | ⟨hr, rfl, rfl⟩⟩ := h
 ·obtain ⟨s, t, a1, n1, c1, a2, n2, c2, a3, n3, c3, rfl, -⟩ := hat.shape
  exact ⟨s, _, _, _, t, a1, n1, c1, a2, n2, c2, a3, n3, c3, true, rfl, by rw [hr]; rfl, hb, fun r' hr' => by rw [hr] at hr'; obtain rfl := sIj hr'; exact hat⟩
 ·exact ⟨⟨#[]⟩, 0, 0, 0, ⟨#[]⟩, none, 0, 0, none, 0, 0, none, 0, 0, false, rfl, by rw [hr]; rfl, hb, fun r hr' => by rw [hr] at hr'; cases hr'⟩
theorem two_setR {w : World} {B : Nat} {t : TypeId} {y0 y1 : Value} (h : w.heap[B]? = some (.cells #[y0, y1] t (0, 0))) (x0 x1 : Value) : ∃ W, ((w.setCell ⟨B, 0, none⟩ x0).setCell ⟨B, 1, none⟩ x1) = W ∧ W.heap[B]? = some (.cells #[x0, x1] t (0, 0)) ∧ Ch [B] w W := by
 have s0 := set_at 0 x0 h (ds := #[x0, y1]) (by simp)
 have s1 := set_at 1 x1 s0 (ds := #[x0, x1]) (by simp)
 exact ⟨_, rfl, s1, (((Ch.refl [B] w).setCell (p := ⟨B, 0, none⟩) (.inl (List.mem_singleton_self _)) x0).setCell (p := ⟨B, 1, none⟩) (.inl (List.mem_singleton_self _)) x1)⟩
def zPlus (Z : Zone) (n : Nat) : Zone := fun b => Z b ∨ n ≤ b
theorem PkgsAt.src {Z : Zone} {w : World} {v : Value} {ps : List Pk} (h : PkgsAt Z w v ps) : Src Tryz.prog 4 22 v ps.length (ps.flatMap pkL) w := by
 obtain ⟨a, c, rfl, hb, h4⟩ := h
 have hlen : (ps.flatMap pkL).length = ps.length * 4 := flat_len pkL_len ps
 cases a with
 | none =>
  obtain ⟨e1, rfl⟩ := hb.nil rfl
  obtain rfl : ps = [] := eN0 e1
  exact Src.ofNil w Tryz.underlying22 0
 | some ad =>
  refine Src.ofSlice w Tryz.underlying22 ad ps.length c _ hlen (fun j u hj => ?_) (fun u hu => by
   obtain ⟨p, -, hp⟩ := List.mem_flatMap.1 hu
   exact pkL_one p u hp)
  have hj2 := (gEs.1 hj).1
  rw [hlen] at hj2
  have hne : ps ≠ [] := fun e => by subst e; simp at hj
  obtain ⟨b, o, e, hz, hl, hcs⟩ := h4 hne
  obtain rfl := sIj e
  have hjd : j / 4 < ps.length := by omega
  have h2 := flat_at pkL_len ps (j / 4) _ (gEg hjd) (j % 4) (by omega)
  rw [show j / 4 * 4 + j % 4 = j from by omega, hj] at h2
  have := hcs (j / 4) _ (gEg hjd) (j % 4) u h2.symm
  rw [Addr.add_lit]
  rwa [show o + j / 4 * 4 + j % 4 = o + j from by omega] at this
def RecsL (Z : Zone) (w : World) (ys : List Value) (rs : List Rc) : Prop := ys.length = rs.length * 8 ∧ (∀ u ∈ ys, u.oneCell' = true) ∧ ∀ i r, rs[i]? = some r → ∃ vs, RecAt Z w vs r ∧ ∀ j, j < 8 → ys[i * 8 + j]? = vs[j]?
theorem RecAt.len {Z : Zone} {w : World} {vs : List Value} {r : Rc} (h : RecAt Z w vs r) : vs.length = 8 := by
 obtain ⟨t0, t1, b0, r0, rfl, -⟩ := h
 rfl
theorem RecAt.ones {Z : Zone} {w : World} {vs : List Value} {r : Rc} (h : RecAt Z w vs r) : ∀ u ∈ vs, u.oneCell' = true := by
 obtain ⟨s, t, a1, n1, c1, a2, n2, c2, a3, n3, c3, rfl, -⟩ := h.shape
 intro u hu
 simp only [List.mem_cons, List.not_mem_nil, or_false] at hu
 rcases hu with rfl | rfl | rfl | rfl | rfl | rfl | rfl | rfl <;> rfl
theorem RecsL.keep {Z Z' : Zone} {w w' : World} (hk : Keep Z Z' w w') {ys : List Value} {rs : List Rc} (h : RecsL Z w ys rs) : RecsL Z' w' ys rs :=
 ⟨h.1, h.2.1, fun i r hi => by obtain ⟨vs, h1, h2⟩ := h.2.2 i r hi; exact ⟨vs, h1.keep hk, h2⟩⟩
theorem RecsL.snoc {Z : Zone} {w : World} {ys vs : List Value} {rs : List Rc} {r : Rc} (h : RecsL Z w ys rs) (hr : RecAt Z w vs r) : RecsL Z w (ys ++ vs) (rs ++ [r]) := by
 refine ⟨by rw [lAp, lAp, h.1, hr.len]; simp; omega, fun u hu => (List.mem_append.1 hu).elim (h.2.1 u) (hr.ones u), fun i x hi => ?_⟩
 rcases Nat.lt_or_ge i rs.length with hl | hl
 ·rw [List.getElem?_append_left hl] at hi
  obtain ⟨us, h1, h2⟩ := h.2.2 i x hi
  exact ⟨us, h1, fun j hj => by rw [List.getElem?_append_left (by rw [h.1]; omega)]; exact h2 j hj⟩
 ·rw [List.getElem?_append_right hl] at hi
  have h0 : i - rs.length = 0 := by
   have := (gEs.1 hi).1
   simp at this
   omega
  rw [h0] at hi
  obtain rfl : r = x := by simpa using hi
  refine ⟨vs, hr, fun j hj => ?_⟩
  rw [List.getElem?_append_right (by rw [h.1]; omega), h.1, show i * 8 + j - rs.length * 8 = j from by omega]
theorem RecsAt.listB {Z : Zone} {w : World} {v : Value} {rs : List Rc} (h : RecsAt Z w v rs) : ∃ ys, RecsL Z w ys rs ∧ ∀ W, Below w.heap.size w W → Src Tryz.prog 8 23 v rs.length ys W := by
 obtain ⟨a, c, rfl, hb, h4⟩ := h
 have key : ∀ n, n ≤ rs.length → ∃ ys, RecsL Z w ys (rs.take n) ∧ (rs ≠ [] → ∀ b o, a = some ⟨b, o, none⟩ → ∀ j u, ys[j]? = some u → w.cell? ⟨b, o + j, none⟩ = some u) := by
  intro n
  induction n with
  | zero => intro _; exact ⟨[], ⟨rfl, (fun u hu => by cases hu), fun i r hi => by simp at hi⟩, fun _ b o _ j u hj => by simp at hj⟩
  | succ n ih =>
   intro hn
   obtain ⟨ys, h1, h2⟩ := ih (by omega)
   have hne : rs ≠ [] := fun e => by rw [e] at hn; simp at hn
   obtain ⟨b, o, rfl, hz, hl, hcs⟩ := h4 hne
   have hdn := gEg (l := rs) (i := n) (by omega)
   obtain ⟨vs, g1, g2⟩ := hcs n _ hdn
   refine ⟨ys ++ vs, by rw [List.take_add_one, hdn]; exact h1.snoc g1, fun _ b' o' e j u hj => ?_⟩
   obtain ⟨rfl, rfl⟩ : b = b' ∧ o = o' := by simpa using e
   have hyl : ys.length = n * 8 := by rw [h1.1, List.length_take, Nat.min_eq_left (by omega)]
   rcases Nat.lt_or_ge j ys.length with hjl | hjl
   ·rw [List.getElem?_append_left hjl] at hj
    exact h2 hne b o rfl j u hj
   ·rw [List.getElem?_append_right hjl] at hj
    have := g2 _ u hj
    rwa [show o + n * 8 + (j - ys.length) = o + j from by omega] at this
 obtain ⟨ys, h1, h2⟩ := key rs.length (Nat.le_refl _)
 rw [List.take_length] at h1
 refine ⟨ys, h1, fun W hW => ?_⟩
 cases a with
 | none =>
  obtain ⟨e1, rfl⟩ := hb.nil rfl
  obtain rfl : rs = [] := eN0 e1
  obtain rfl : ys = [] := eN0 (by simpa using h1.1)
  exact Src.ofNil W Tryz.underlying23 0
 | some ad =>
  refine Src.ofSlice W Tryz.underlying23 ad rs.length c ys h1.1 (fun j u hj => ?_) h1.2.1
  have hne : rs ≠ [] := fun e => by
   subst e
   obtain rfl : ys = [] := eN0 (by simpa using h1.1)
   simp at hj
  obtain ⟨b, o, e, hz, hl, hcs⟩ := h4 hne
  obtain rfl := sIj e
  rw [Addr.add_lit]
  exact bkp hW _ _ (h2 hne b o rfl j u hj)
theorem RecsAt.of_owns {Z : Zone} {w : World} {base : Nat} {e : TypeId} {v : Value} {ys : List Value} {rs : List Rc} (h : w.ownsRow base e 8 v rs.length ys) (hl : RecsL Z w ys rs) (hz : ∀ b, base ≤ b → Z b) (hm : rs.length ≤ 8796093022208) : RecsAt Z w v rs := by
 rcases h.2 with ⟨rfl, h0⟩ | ⟨g, cap, cur, rfl, hbase, hb, h1, h2, h3, h4⟩
 ·refine ⟨none, 0, by rw [h0], ⟨by omega, by omega, by unfold maxLen; omega, fun _ => ⟨h0, rfl⟩⟩, fun hne => absurd (eN0 h0) hne⟩
 ·refine ⟨some ⟨g, 0, none⟩, cap, rfl, ⟨h1, hm, h2, fun e => by cases e⟩, fun hne => ⟨g, 0, rfl, hz g hbase, loh hb, fun i r hi => ?_⟩⟩
  obtain ⟨vs, g1, g2⟩ := hl.2.2 i r hi
  refine ⟨vs, g1, fun j u hj => ?_⟩
  have hj8 : j < 8 := by rw [← g1.len]; exact (gEs.1 hj).1
  have := g2 j hj8
  rw [hj, ← h4, List.getElem?_take] at this
  rw [cOh hb, Nat.zero_add]
  split at this
  ·rw [← Array.getElem?_toList]; exact this
  ·cases this
theorem owns_emptyR (W : World) (base : Nat) (t : TypeId) (sz : Nat) {g : Nat} (hg : base ≤ g) (h : W.heap[g]? = some (.cells #[] t (0, 0))) : W.ownsRow base t sz (.slice (some ⟨g, 0, none⟩) 0 0) 0 [] :=
 ⟨by simp, .inr ⟨g, 0, #[], rfl, hg, h, Nat.le_refl _, by unfold maxLen; omega, by simp, by simp⟩⟩
theorem rhas2_any (w : World) (Z : Zone) (v : Value) (st : St) (h : RefAt Z w v st) (p : Pk) :
  Calls Tryz.prog 23 #[v, .agg #[strV p.1, .int .i64 p.2.1, .int .i64 p.2.2.1, .int .i64 p.2.2.2]] w (fun e w' => e = .returned (.bool (st.has p)) ∧ Below w.heap.size w w') := by
 have hrc := fun W (hW : Below w.heap.size w W) => rrec_any W Z v st (h.below hW) p
 have hsd := fun W (hW : Below w.heap.size w W) => riss_any W Z v st (h.below hW) p
 obtain ⟨a1, c1, a2, c2, rfl, -, -⟩ := h.form
 obtain ⟨n1, hn1⟩ : ∃ n, st.seeds.length = n := ⟨_, rfl⟩
 obtain ⟨n2, hn2⟩ : ∃ n, st.recs.length = n := ⟨_, rfl⟩
 rw [hn1, hn2] at hrc hsd ⊢
 obtain ⟨T, -, hT, -, -⟩ := strV_is p.1
 rw [hT] at hrc hsd ⊢
 obtain ⟨R, hR⟩ : ∃ R, R = st.has p := ⟨_, rfl⟩
 rw [← hR]
 unfold St.has at hR
 obtain ⟨p1, hp1⟩ : ∃ x, p.2.1 = x := ⟨_, rfl⟩
 obtain ⟨p2, hp2⟩ : ∃ x, p.2.2.1 = x := ⟨_, rfl⟩
 obtain ⟨p3, hp3⟩ : ∃ x, p.2.2.2 = x := ⟨_, rfl⟩
 rw [hp1, hp2, hp3] at hrc hsd ⊢
 obtain ⟨w0, hw0, hb0, hx0, y1, y2⟩ := aBk w #[.slice a1 n1 c1, .slice a2 n2 c2] 28
 obtain ⟨w1, hw1, hb1, hx1, y3, y4⟩ := aBk w0 #[.string T, .int .i64 p1, .int .i64 p2, .int .i64 p3] 41
 obtain ⟨B1, hB1⟩ : ∃ b, w0.heap.size = b := ⟨_, rfl⟩
 have g0 := (hb1.block _ (by omega)).trans hx0
 rw [hB1] at hx1
 have hb01 := hb0.trans (hb1.mono hb0.size)
 obtain ⟨s0, s1⟩ := cells2 g0
 obtain ⟨e0, e1, e2, e3⟩ := cells4 hx1
 have HRC := hdL (hrc w1 hb01); have HSD := hdL hsd; have HB := hdL hb01; have HR := hdL hR; have G0 := hdL g0; have HX := hdL hx1
 clear hrc hsd hb01 hb0 hb1 hx0 hx1 g0 hR hT hp1 hp2 hp3 hn1 hn2 h y1 y2 y3 y4
 go_enter Tryz.func23, Tryz.ntmps23
 go_wp2_with fail
 refine HRC.out.mono ?_
 intro e w2 hrp
 obtain ⟨s, x, y, z, t, b1, m1, d1, b2, m2, d2, b3, m3, d3, b, rfl, hb, h2, -⟩ := hrp.shape
 have hb2 := HB.out.trans (h2.mono HB.out.size)
 obtain ⟨w3, hw3, hb3, hx3, z1, z2⟩ := aBk w2 #[.string s, .int .i64 x, .int .i64 y, .int .i64 z, .string t, .slice b1 m1 d1, .slice b2 m2 d2, .slice b3 m3 d3] 62
 have hb23 := h2.trans (hb3.mono h2.size)
 have g0 := (hb23.block _ (loh G0.out)).trans G0.out
 have gx := (hb23.block _ (loh HX.out)).trans HX.out
 have hb03 := HB.out.trans (hb23.mono HB.out.size)
 have H3 := hdL hb03; have HSD3 := hdL (HSD.out w3 hb03); have HBB := hdL hb
 clear s0 s1 e0 e1 e2 e3 hb2 hrp h2 hb3 hx3 hb23 hb03 hb z1 z2
 obtain ⟨s0, s1⟩ := cells2 g0
 obtain ⟨e0, e1, e2, e3⟩ := cells4 gx
 clear g0 gx
 cases b
 ·have HRR := hdL (show R = st.isSeed p by rw [HR.out, ← HBB.out]; rfl)
  go_wp2_with fail
  refine HSD3.out.mono ?_
  rintro e w4 ⟨rfl, h4⟩
  have H4 := hdL (H3.out.trans (h4.mono H3.out.size))
  clear h4 s0 s1 e0 e1 e2 e3
  go_wp2_with fail
  go_ret
  exact ⟨by rw [HRR.out]; rfl, H4.out⟩
 ·have HRR := hdL (show R = true by rw [HR.out, ← HBB.out]; rfl)
  go_wp2_with fail
  go_ret
  exact ⟨by rw [HRR.out]; rfl, H3.out⟩
end Go.Proofs.YtaagkndhgicifaaGreat
