/- DERIVED. Packages that need the seed alone, and one that needs them all: StageWide, walked. -/
import Derived.Test.YtaagkndhgicifaaGreatStgAl
import Derived.Test.YtaagkndhgicifaaGreatStgWdM
namespace Go.Proofs.YtaagkndhgicifaaGreat
set_option maxHeartbeats 32000000
open Go.RowKit Go.Shelf
set_option linter.unusedVariables false
set_option linter.unusedSimpArgs false
set_option maxRecDepth 100000
theorem wSlice : ∀ (k : Nat), k < 8 → ∀ W : World, (Instr.slice 9 (.string ⟨#[97, 98, 99, 100, 101, 102, 103, 104]⟩) (some (.int .i64 (k : Int))) (some (.int .i64 ((k : Int) + 1))) none).run Tryz.prog W = .ok (.string (wB k)) W
 | 0, _, W => by kernel_rfl
 | 1, _, W => by kernel_rfl
 | 2, _, W => by kernel_rfl
 | 3, _, W => by kernel_rfl
 | 4, _, W => by kernel_rfl
 | 5, _, W => by kernel_rfl
 | 6, _, W => by kernel_rfl
 | 7, _, W => by kernel_rfl
 | n + 8, h, _ => absurd h (by omega)
def StkD (D : Nat → Prop) (w0 w : World) (B : Nat) (st : St) : Prop := ∃ F, StkAtY (fun b => ¬ D b) w B F st ∧ (∀ b ∈ F, w0.heap.size ≤ b ∧ ¬ D b) ∧ Below w0.heap.size w0 w
section
variable {D D' : Nat → Prop} {w0 w w' : World} {B : Nat} {st : St}
theorem StkOwn.d (h : StkOwn w0 w B st) (hD : ∀ b, D b → w.heap.size ≤ b) : StkD D w0 w B st := by
 obtain ⟨F, h1, h2, h3⟩ := h
 exact ⟨F, h1.keepF (Nat.le_refl _) (fun b hl _ hd => by have := hD b hd; omega) (fun _ _ _ => rfl), fun b hb => ⟨h2 b hb, fun hd => by have := hD b hd; have := h1.lt b hb; omega⟩, h3⟩
theorem StkD.below0 (h : StkD D w0 w B st) : Below w0.heap.size w0 w := by obtain ⟨F, -, -, h⟩ := h; exact h
theorem StkD.move (h : StkD D w0 w B st) (hs : w.heap.size ≤ w'.heap.size) (hb : ∀ b, b < w.heap.size → ¬ D b → w'.heap[b]? = w.heap[b]?) (hD : ∀ b, b < w.heap.size → D' b → D b) (hw : Below w0.heap.size w0 w') : StkD D' w0 w' B st := by
 obtain ⟨F, h1, h2, h3⟩ := h
 exact ⟨F, h1.keepF hs (fun b hl hy hd => hy (hD b hl hd)) (fun b hl hm => hb b hl (hm.elim (fun hm => (h2 b hm).2) id)), fun b hb' => ⟨(h2 b hb').1, fun hd => (h2 b hb').2 (hD b (h1.lt b hb') hd)⟩, hw⟩
theorem StkD.below (h : StkD D w0 w B st) (hb : Below w.heap.size w w') : StkD D w0 w' B st := h.move hb.size (fun b hl _ => hb.block b hl) (fun _ _ h => h) (h.below0.trans (hb.mono h.below0.size))
theorem StkD.own (h : StkD D w0 w B st) : StkOwn w0 w B st := by
 obtain ⟨F, h1, h2, h3⟩ := h
 exact ⟨F, h1.keepF (Nat.le_refl _) (fun _ _ _ => trivial) (fun _ _ _ => rfl), fun b hb => (h2 b hb).1, h3⟩
theorem d_add (h : StkD D w0 w B st) (hD : ∀ b, D b → b < w.heap.size) (n : List UInt8) (k : Int) (hl : n.length ≤ 1000) {T : ByteArray} (hT : strV n = .string T) {Z : Zone} {tl : Dp} {bd rn : List Dp} {v0 v1 v2 v3 : Value} (hd : DepAt Z w v0 v1 tl) (hb : DepsAt Z w v2 bd) (hr : DepsAt Z w v3 rn) :
  Calls Tryz.prog 28 #[.pointer (some ⟨B, 0, none⟩), .agg #[.string T, .int .i64 k, .int .i64 0, .int .i64 0, v0, v1, v2, v3]] w (fun e w' => (∃ c, e = .returned (.int .i64 c)) ∧ StkD D w0 w' B (st.add ⟨(n, k, 0, 0), tl, bd, rn⟩).1 ∧ w.heap.size ≤ w'.heap.size ∧ ∀ b, D b → w'.heap[b]? = w.heap[b]?) := by
 obtain ⟨F, h1, h2, h3⟩ := h
 have := stkaddY_any w B F st h1 Z _ ⟨(n, k, 0, 0), tl, bd, rn⟩ ⟨v0, v1, v2, v3, rfl, by dsimp only; omega, hd, hb, hr⟩ (fun b hb hd => by have := hD b hd; omega)
 dsimp only at this
 rw [hT] at this
 refine this.mono fun e w' h => ?_
 obtain ⟨rfl, F', k1, k2, k3⟩ := h
 exact ⟨⟨_, rfl⟩, ⟨F', k1, fun b hb => (k3 b hb).elim (h2 b) (fun hl => ⟨Nat.le_trans h3.size hl, fun hd => by have := hD b hd; omega⟩), h3.trans (boC k2 (fun b hb => (h2 b hb).1) h3.size)⟩, k2.size, fun b hd => k2.block b (hD b hd) (fun hm => (h2 b hm).2 hd)⟩
end
def wD (g bA : Nat) (a : Option Addr) : Nat → Prop := fun b => b = g ∨ b = bA ∨ (Value.slice a 0 0).ownBlock = some b
def wVal (g i : Nat) : List Value := [.string (wB i), .slice (some ⟨g, 0, none⟩) 1 1]
structure WdAt (w0 : World) (base : Nat) (w : World) (B g bA : Nat) (st : St) (k : Nat) (a : Option Addr) (c : Nat) : Prop where
 stk : StkD (wD g bA a) w0 w B st
 all : w.heap[bA]? = some (.cells #[.string ⟨#[116, 111, 112]⟩, .int .i64 1, .int .i64 0, .int .i64 0, .string ⟨#[99, 99]⟩, .slice (some ⟨g, 0, none⟩) 1 1, .slice a k c, .slice none 0 0] 62 (0, 0))
 gap : w.heap[g]? = some (.cells #[.int .i64 (0 * 1000000), .int .i64 (9 * 1000000)] 125 (0, 0))
 row : ownsC w base 59 2 (.slice a k c) k ((List.range k).flatMap (wVal g))
 low : g < base ∧ bA < base ∧ g ≠ bA ∧ w0.heap.size ≤ g ∧ w0.heap.size ≤ bA ∧ base ≤ w.heap.size
section
variable {w0 w w' : World} {base B g bA k : Nat} {st st' : St} {a a' : Option Addr} {c c' : Nat}
theorem WdAt.lt (h : WdAt w0 base w B g bA st k a c) : ∀ b, wD g bA a b → b < w.heap.size := by
 rintro b (rfl | rfl | hb)
 ·exact loh h.gap
 ·exact loh h.all
 ·rw [own_len a 0 0 k c] at hb
  obtain ⟨_, cur, hc⟩ := oCk h.row hb
  exact loh hc
theorem WdAt.kept (h : WdAt w0 base w B g bA st k a c) (hs : StkD (wD g bA a) w0 w' B st') (hz : w.heap.size ≤ w'.heap.size) (hb : ∀ b, wD g bA a b → w'.heap[b]? = w.heap[b]?) : WdAt w0 base w' B g bA st' k a c :=
 ⟨hs, (hb _ (.inr (.inl rfl))).trans h.all, (hb _ (.inl rfl)).trans h.gap, ownsC_keep h.row (fun b e => hb b (.inr (.inr (by rw [own_len a 0 0 k c]; exact e)))), h.low.1, h.low.2.1, h.low.2.2.1, h.low.2.2.2.1, h.low.2.2.2.2.1, Nat.le_trans h.low.2.2.2.2.2 hz⟩
theorem WdAt.below (h : WdAt w0 base w B g bA st k a c) (hb : Below w.heap.size w w') : WdAt w0 base w' B g bA st k a c :=
 h.kept (h.stk.below hb) hb.size (fun b hd => hb.block b (h.lt b hd))
theorem WdAt.push (h : WdAt w0 base w B g bA st k a c) (ho : ownsC w' base 59 2 (.slice a' (k + 1) c') (k + 1) ((List.range k).flatMap (wVal g) ++ wVal g k)) (hg : w.grownBy w' (Value.slice a k c).ownBlock) (hw : (Value.slice a' (k + 1) c').ownBlock = (Value.slice a k c).ownBlock ∨ (Value.slice a' (k + 1) c').ownBlock = some w.heap.size) :
  w'.heap[bA]? = some (.cells #[.string ⟨#[116, 111, 112]⟩, .int .i64 1, .int .i64 0, .int .i64 0, .string ⟨#[99, 99]⟩, .slice (some ⟨g, 0, none⟩) 1 1, .slice a k c, .slice none 0 0] 62 (0, 0)) ∧ WdAt w0 base (w'.setCell ⟨bA, 6, none⟩ (.slice a' (k + 1) c')) B g bA st (k + 1) a' c' := by
 have hr : ∀ b, (Value.slice a k c).ownBlock = some b → base ≤ b := fun b e => (oCk h.row e).1
 have hl := h.low
 have h6 : w'.heap[bA]? = some (.cells #[.string ⟨#[116, 111, 112]⟩, .int .i64 1, .int .i64 0, .int .i64 0, .string ⟨#[99, 99]⟩, .slice (some ⟨g, 0, none⟩) 1 1, .slice a k c, .slice none 0 0] 62 (0, 0)) := (hg.block bA (loh h.all) (fun e => by have := hr _ e.symm; omega)).trans h.all
 refine ⟨h6, ⟨h.stk.move ?_ ?_ ?_ ?_, ?_, ?_, ?_, hl.1, hl.2.1, hl.2.2.1, hl.2.2.2.1, hl.2.2.2.2.1, ?_⟩⟩
 ·rw [World.size_setCell]; exact hg.size
 ·intro b hb hd
  refine (bHs _ _ _ b (fun e => hd (.inr (.inl e)))).trans (hg.block b hb (fun e => hd (.inr (.inr ?_))))
  rw [own_len a 0 0 k c]; exact e.symm
 ·rintro b hb (e | e | e)
  ·exact .inl e
  ·exact .inr (.inl e)
  ·rw [own_len a' 0 0 (k + 1) c'] at e
   rcases hw with hw | hw
   ·refine .inr (.inr ?_)
    rw [own_len a 0 0 k c, ← hw]; exact e
   ·rw [hw] at e
    have := sIj e
    omega
 ·exact (h.stk.below0.grown hg h.stk.below0.size (fun b e => by have := hr b e; omega)).setCell (p := ⟨bA, 6, none⟩) (show w0.heap.size ≤ bA from hl.2.2.2.2.1) _
 ·exact set_at 6 _ h6 (by simp)
 ·exact (bHs _ _ _ g hl.2.2.1).trans ((hg.block g (loh h.gap) (fun e => by have := hr _ e.symm; omega)).trans h.gap)
 ·rw [List.range_succ, List.flatMap_append, List.flatMap_singleton]
  exact ownsC_keep ho (fun b e => bHs _ _ _ b (fun e' => by have h1 := (oCk ho e).1; have h2 : b = bA := e'; have := hl.2.1; omega))
 ·rw [World.size_setCell]; exact Nat.le_trans hl.2.2.2.2.2 hg.size
theorem WdAt.deps (h : WdAt w0 base w B g bA st k a c) (hk : k ≤ 8) : DepsAt zAll w (.slice a k c) ((List.range k).map wDep) := by
 have hlen : ((List.range k).map wDep).length = k := by simp
 have h0 := h.row
 rcases h.row.2 with ⟨e, e2⟩ | ⟨b, cap, cur, e, hb, hg, h1, h2, h3, h4⟩
 ·rw [e, e2]; exact depsAt_none
 ·refine ⟨some ⟨b, 0, none⟩, cap, by rw [hlen]; exact e, ⟨by rw [hlen]; exact h1, by rw [hlen]; omega, h2, fun e => by cases e⟩, fun _ => ⟨b, 0, rfl, trivial, loh hg, fun i d hi => ?_⟩⟩
  have hc := ownsC_cells h0 (g := b) (by rw [e]; rfl)
  rw [List.getElem?_map] at hi
  obtain ⟨j, hj, rfl⟩ := Option.map_eq_some_iff.1 hi
  have hji : j = i := by rw [List.getElem?_range (by have := (gEs.1 hj).1; simpa using this)] at hj; exact (sIj hj).symm
  subst hji
  refine ⟨.string (wB j), .slice (some ⟨g, 0, none⟩) 1 1, ?_, ?_, depAt_one (n := wN j) (T := wB j) rfl (show 1 ≤ 1000 by decide) h.gap trivial⟩
  ·have := hc (j * 2 + 0) (.string (wB j)) (by rw [flat_at (k := 2) (fun _ => rfl) _ j j hj 0 (by omega)]; rfl)
   simpa using this
  ·have := hc (j * 2 + 1) (.slice (some ⟨g, 0, none⟩) 1 1) (by rw [flat_at (k := 2) (fun _ => rfl) _ j j hj 1 (by omega)]; rfl)
   simpa using this
theorem src_dep {b g k : Nat} {V : World} (h : V.heap[b]? = some (.cells (wVal g k).toArray 59 (0, 0))) : Src Tryz.prog 2 60 (.slice (some ⟨b, 0, none⟩) 1 1) 1 (wVal g k) V :=
 Src.ofSlice V Tryz.underlying60 ⟨b, 0, none⟩ 1 1 (wVal g k) rfl (fun j u hj => by rw [Addr.add_lit, Nat.zero_add, cOh h, ← Array.getElem?_toList]; exact hj) (by intro u hu; rcases List.mem_cons.1 hu with rfl | hu; rfl; obtain rfl := mSg.1 hu; rfl)
end
theorem wide_any (w : World) (n : Int) : Calls Tryz.prog 8 #[.int .i64 n] w (fun e w' => e = .returned (.bool true) ∧ Below w.heap.size w w') := by
 go_enter Tryz.func8, Tryz.ntmps8
 go_wp2_with fail
 refine (alive_any w).mono ?_
 rintro e w1 ⟨rfl, h1⟩
 have HB1 := hdL h1
 clear h1
 by_cases g1 : n < 1
 ·go_wp2_with fail
  go_ret
  exact ⟨rfl, HB1.out⟩
 by_cases g2 : 8 < n
 ·go_wp2_with fail
  go_ret
  exact ⟨rfl, HB1.out⟩
 go_wp2_with fail
 refine (stknew_any w1).mono ?_
 rintro e w2 ⟨B, F0, rfl, hst, hF0, h2⟩
 have HS2 := hdL (show StkOwn w w2 B St.empty from ⟨F0, hst, fun b hb => Nat.le_trans HB1.out.size (hF0 b hb), HB1.out.trans (h2.mono HB1.out.size)⟩)
 clear hst hF0 h2
 go_wp2_with fail
 refine (pkg_any w2 _ _).mono ?_
 rintro e w3 ⟨rfl, h3⟩
 have HS3 := hdL (HS2.out.below h3)
 clear h3
 go_wp2_with fail
 refine (own_seed HS3.out n_cc 1 (by decide) rfl).mono ?_
 rintro e w4 ⟨rfl, h4⟩
 rw [wSt_seed] at h4
 have HS4 := hdL h4
 clear h4
 obtain ⟨N, rfl⟩ : ∃ N : Nat, n = (N : Int) := ⟨n.toNat, by omega⟩
 have hN1 : 1 ≤ N := by omega
 have hN8 : N ≤ 8 := by omega
 go_wp2_with fail
 refine (pkg_any w4 _ _).mono ?_
 rintro e w5 ⟨rfl, h5⟩
 have H45 := hdL h5
 clear h5
 go_wp2_with fail
 refine (tool_any w5 ⟨#[116, 111, 112]⟩ ⟨#[99, 99]⟩ 1 0 9 (by decide) (by decide)).mono ?_
 rintro e w6 ⟨g, rfl, hg, hx, h6⟩
 have H46 := hdL (H45.out.trans (h6.mono H45.out.size))
 obtain ⟨w7, hw7, hb7, hx7, y1, y2⟩ := aBk w6 #[.string ⟨#[]⟩, .int .i64 0, .int .i64 0, .int .i64 0, .string ⟨#[]⟩, .slice none 0 0, .slice none 0 0, .slice none 0 0] 62
 obtain ⟨bA, hbA⟩ : ∃ b, w6.heap.size = b := ⟨_, rfl⟩
 rw [hbA] at hx7
 obtain ⟨w8, hw8, hx8, hc8⟩ := eight_setR hx7 (.string ⟨#[116, 111, 112]⟩) (.int .i64 1) (.int .i64 0) (.int .i64 0) (.string ⟨#[99, 99]⟩) (.slice (some ⟨g, 0, none⟩) 1 1) (.slice none 0 0) (.slice none 0 0)
 have hgA : g < bA := by rw [← hbA]; exact loh hx
 have hg7 := (hb7.block g (loh hx)).trans hx
 have hg8 := (hc8.block g (loh hg7) (by simp; omega)).trans hg7
 have h48 : Below w4.heap.size w4 w8 := (H46.out.trans (hb7.mono H46.out.size)).trans (boC hc8 (fun b hb => by obtain rfl := mSg.1 hb; rw [← hbA]; exact H46.out.size) (H46.out.trans (hb7.mono H46.out.size)).size)
 have hg4 : w4.heap.size ≤ g := Nat.le_trans H45.out.size hg
 have hA4 : w4.heap.size ≤ bA := by omega
 have hAD : ∀ b, wD g bA none b → w4.heap.size ≤ b := by
  rintro b (rfl | rfl | e)
  ·exact hg4
  ·exact hA4
  ·cases e
 have hst8 := (HS4.out.d (D := wD g bA none) hAD).below h48
 have hw04 := HS4.out.below0.size
 have HW8 := hdL (show WdAt w w8.heap.size w8 B g bA (wSt 0) 0 none 0 from ⟨hst8, hx8, hg8, ownsC_nil _ _ _ _, loh hg8, loh hx8, by omega, by omega, by omega, Nat.le_refl _⟩)
 have HE8 := hdL hw8
 obtain ⟨z0, z1, z2, z3, z4, z5, z6, z7⟩ := cells8 hx7
 have zf := foh hx7
 clear hg hx h6 hx8 hc8 hgA hg7 hg8 h48 hg4 hA4 hAD hst8 hw04 hw8 y1 y2
 go_upto_region 9 with fail
 rw [HE8.out]
 clear z0 z1 z2 z3 z4 z5 z6 z7 zf hw7 hb7 hx7
 obtain ⟨N8, hN8e⟩ : ∃ z, z = w8.heap.size := ⟨_, rfl⟩
 rw [← hN8e] at HW8
 clear hN8e
 obtain ⟨iD, hiD, hzD0, hzD1, hzD2⟩ := info_parts infoDep
 have HI := hdL (And.intro hiD (And.intro hzD0 (And.intro hzD1 hzD2)))
 clear hiD hzD0 hzD1 hzD2
 go_wp2_with fail
 go_loopw [6] (fun x wr => ∃ (k : Nat) (a : Option Addr) (c : Nat), x = .int .i64 k ∧ k ≤ N ∧ Hid (WdAt w N8 wr B g bA (wSt k) k a c)) (fun x _ => N - (intOf x).toNat)
 case atStart => exact ⟨0, none, 0, rfl, Nat.zero_le _, HW8⟩
 case round =>
  obtain ⟨k, a, c, rfl, hk, hwd⟩ := hrel
  obtain ⟨W0, hW0⟩ : ∃ W, W = wr := ⟨_, rfl⟩
  subst hW0
  by_cases hlt : k < N
  ·have hadd : IntKind.i64.wrap ((k : Int) + 1) = (k : Int) + 1 := IntWalk.i64_in _ (by omega)
   have hsl := wSlice k (by omega)
   go_wp2_with fail
   refine (pkg_any W0 _ _).mono ?_
   rintro e v1 ⟨rfl, f1⟩
   obtain ⟨v2, hv2, f2, hx2, y1, y2⟩ := aBk v1 #[.string (wB k), .int .i64 1, .int .i64 0, .int .i64 0] 41
   obtain ⟨b7, hb7⟩ : ∃ b, v1.heap.size = b := ⟨_, rfl⟩
   rw [hb7] at hx2
   have hsd := ((hwd.out.stk.below f1).move (D' := fun b => wD g bA a b ∨ b = b7) (Nat.le_refl _) (fun _ _ _ => rfl) (fun b hl hd => hd.elim id (fun e => absurd e (by omega))) (hwd.out.stk.below f1).below0).below f2
   have HW2 := hdL (hwd.out.below (f1.trans (f2.mono f1.size))); have HX2 := hdL hx2; have HV2 := hdL hv2; have HSD := hdL hsd
   clear f1 f2 hx2 hv2 y1 y2 hsd
   go_upto_region 13 with fail
   rw [HV2.out]
   clear hsl
   obtain ⟨k0, k1, k2, k3⟩ := cells4 HX2.out
   go_wp2_with fail
   refine (tool_any v2 (wB k) ⟨#[99, 99]⟩ 1 0 9 (by decide) (by decide)).mono ?_
   rintro e v3 ⟨g', rfl, hg', hx', f3⟩
   have HW3 := hdL (HW2.out.below f3); have HX3 := hdL ((f3.block _ (loh HX2.out)).trans HX2.out)
   have had := d_add (HSD.out.below f3) (fun b hd => hd.elim (HW3.out.lt b) (fun e => by rw [e]; exact loh HX3.out)) (wN k) 1 (by show 1 ≤ 1000; decide) (T := wB k) rfl (Z := zAll) (tl := (n_cc, [(0 * 1000000, 9 * 1000000)])) (bd := []) (rn := []) (depAt_one (T := ⟨#[99, 99]⟩) rfl (by decide) hx' trivial) depsAt_none depsAt_none
   rw [show (⟨(wN k, 1, 0, 0), (n_cc, [(0 * 1000000, 9 * 1000000)]), [], []⟩ : Rc) = wRec k from rfl, wSt_add k (by omega)] at had
   have HAD := hdL had
   clear hg' hx' f3 had k0 k1 k2 k3
   go_wp2_with fail
   refine HAD.out.mono ?_
   rintro e v4 ⟨⟨cc, rfl⟩, hs, hz, hbb⟩
   have hw4 := HW3.out.kept (hs.move (D' := wD g bA a) (Nat.le_refl _) (fun _ _ _ => rfl) (fun b _ hd => .inl hd) hs.below0) hz (fun b hd => hbb b (.inl hd))
   have hx4 := (hbb b7 (.inr rfl)).trans HX3.out
   obtain ⟨v5, hv5, f5, hx5, y1, y2⟩ := aBk v4 #[.string (wB k), .slice (some ⟨g, 0, none⟩) 1 1] 59
   obtain ⟨b9, hb9⟩ : ∃ b, v4.heap.size = b := ⟨_, rfl⟩
   rw [hb9] at hx5
   have hw5 := hw4.below f5
   have HW5 := hdL hw5; have HOW := hdL hw5.row; have HSRC := hdL (src_dep (k := k) hx5); have HBASE := hdL hw5.low.2.2.2.2.2; have HG4 := hdL hw4
   have k0 := cOh hx4 0
   have m5 := cOh hw4.all 5
   have m6 := cOh hw4.all 6
   clear hs hz hbb hw4 hx4 f5 hx5 hw5 y1 y2
   go_wp2_with (first | (at_builtin; refine wpList_append_c rfl (.tmp 45) (.tmp 52) 60 60 rfl N8 59 iD _ 2 40 Tryz.underlying60 HI.out.1 HI.out.2.1 HI.out.2.2.1 HI.out.2.2.2 rfl (.slice a k c) rfl k _ HOW.out (.slice (some ⟨b9, 0, none⟩) 1 1) rfl 1 _ HSRC.out (by unfold maxLen; omega) (by omega) HBASE.out ?_; intro a' c' w18 ho hgr hw; have hpu := HW5.out.push ho hgr hw; have q6 := cOh hpu.1 6; have qf := foh hpu.1; have HPU := hdL hpu.2; clear ho hgr hw hpu) | fail)
   go_roundw
   case rel => exact ⟨k + 1, a', c', by go_num, by omega, HPU⟩
   case measure => first | (simp [intOf]; done) | (simp [intOf]; omega)
  ·obtain rfl : k = N := by omega
   obtain ⟨hm0, hm1, hm2, hm3, hm4, hm5, hm6, hm7⟩ := cells8 hwd.out.all
   have had := d_add hwd.out.stk hwd.out.lt n_top 1 (by decide) (T := ⟨#[116, 111, 112]⟩) rfl (Z := zAll) (tl := (n_cc, [(0 * 1000000, 9 * 1000000)])) (rn := []) (depAt_one (T := ⟨#[99, 99]⟩) rfl (by decide) hwd.out.gap trivial) (hwd.out.deps hN8) depsAt_none
   rw [show (⟨(n_top, 1, 0, 0), (n_cc, [(0 * 1000000, 9 * 1000000)]), (List.range k).map wDep, []⟩ : Rc) = wTop k from rfl, wSt_top k hN8] at had
   have HAD := hdL had
   clear had
   go_wp2_with fail
   refine HAD.out.mono ?_
   rintro e v4 ⟨⟨cc, rfl⟩, hs, -, -⟩
   have HST := hdL hs.own
   clear hs hm0 hm1 hm2 hm3 hm4 hm5 hm6 hm7
   go_wp2_with fail
   refine (own_fix HST.out 2000 (by decide)).mono ?_
   intro e w5 hfp
   obtain ⟨h5, Tb, es, rfl, hes, hsg⟩ := hfp.some (wAll_fix k hN1 hN8)
   have HB5 := hdL (HST.out.below0.trans (h5.mono HST.out.below0.size)); have HSG := hdL hsg; have HES := hdL hes
   clear hfp h5 hsg hes
   go_wp2_with fail
   go_loopw [10] (fun x wr => ∃ j : Nat, x = .int .i64 j ∧ j ≤ k ∧ Hid (Below w5.heap.size w5 wr)) (fun x _ => k - (intOf x).toNat)
   case atStart => exact ⟨0, rfl, Nat.zero_le _, hdL (Below.refl _ _)⟩
   case round =>
    obtain ⟨j, rfl, hj, hbw⟩ := hrel
    obtain ⟨V0, hV0⟩ : ∃ W, W = wr := ⟨_, rfl⟩
    subst hV0
    by_cases hlt2 : j < k
    ·have hadd : IntKind.i64.wrap ((j : Int) + 1) = (j : Int) + 1 := IntWalk.i64_in _ (by omega)
     have hsl := wSlice j (by omega)
     go_wp2_with fail
     refine (pkg_any V0 _ _).mono ?_
     rintro e v1 ⟨rfl, f1⟩
     have HB6 := hdL (hbw.out.trans (f1.mono hbw.out.size))
     clear f1
     have hge := sget_any v1 _ Tb es _ _ (HSG.out.below HB6.out) (wN j, 1, 0, 0)
     rw [show strV (wN j, (1 : Int), (0 : Int), (0 : Int)).1 = .string (wB j) from rfl] at hge
     have HGE := hdL hge
     clear hge
     go_wp2_with fail
     refine HGE.out.mono ?_
     intro e v2 hgp
     rw [HES.out] at hgp
     obtain ⟨f2, aE, cE, he, -⟩ := hgp
     rw [wL_get k hN8 j hlt2] at he
     replace he : e = .returned (.tuple #[.agg #[.string (wB j), .int .i64 1, .int .i64 0, .int .i64 0, .int .i64 1, .string ⟨#[99, 99]⟩, .int .i64 1, .int .i64 0, .int .i64 0, .slice aE 0 cE], .bool true]) := he
     subst he
     obtain ⟨v3, hv3, f3, hx3, y1, y2⟩ := aBk v2 #[.string (wB j), .int .i64 1, .int .i64 0, .int .i64 0, .int .i64 1, .string ⟨#[99, 99]⟩, .int .i64 1, .int .i64 0, .int .i64 0, .slice aE 0 cE] 45
     obtain ⟨b3, hb3⟩ : ∃ b, v2.heap.size = b := ⟨_, rfl⟩
     rw [hb3] at hx3
     have q4 := cOh hx3 4
     have q9 := cOh hx3 9
     have HB7 := hdL (HB6.out.trans ((f2.trans (f3.mono f2.size)).mono HB6.out.size))
     clear f2 f3 hx3 y1 y2 hsl
     go_wp2_with fail
     go_roundw
     case rel => exact ⟨j + 1, by go_num, by omega, HB7⟩
     case measure => first | (simp [intOf]; done) | (simp [intOf]; omega)
    ·obtain rfl : j = k := by omega
     go_wp2_with fail
     refine (pkg_any V0 _ _).mono ?_
     rintro e v1 ⟨rfl, f1⟩
     have HB6 := hdL (hbw.out.trans (f1.mono hbw.out.size))
     clear f1
     have hge := sget_any v1 _ Tb es _ _ (HSG.out.below HB6.out) (n_top, 1, 0, 0)
     rw [show strV (n_top, (1 : Int), (0 : Int), (0 : Int)).1 = .string ⟨#[116, 111, 112]⟩ from rfl] at hge
     have HGE := hdL hge
     clear hge
     go_wp2_with fail
     refine HGE.out.mono ?_
     intro e v2 hgp
     rw [HES.out] at hgp
     obtain ⟨f2, aE, cE, he, -⟩ := hgp
     rw [wL_top j hN8] at he
     replace he : e = .returned (.tuple #[.agg #[.string ⟨#[116, 111, 112]⟩, .int .i64 1, .int .i64 0, .int .i64 0, .int .i64 2, .string ⟨#[99, 99]⟩, .int .i64 1, .int .i64 0, .int .i64 0, .slice aE ((List.range j).map fun i => ((wN i, 1, 0, 0) : Pk)).length cE], .bool true]) := he
     rw [List.length_map, List.length_range] at he
     subst he
     obtain ⟨v3, hv3, f3, hx3, y1, y2⟩ := aBk v2 #[.string ⟨#[116, 111, 112]⟩, .int .i64 1, .int .i64 0, .int .i64 0, .int .i64 2, .string ⟨#[99, 99]⟩, .int .i64 1, .int .i64 0, .int .i64 0, .slice aE j cE] 45
     obtain ⟨b3, hb3⟩ : ∃ b, v2.heap.size = b := ⟨_, rfl⟩
     rw [hb3] at hx3
     have HB7 := hdL (HB6.out.trans ((f2.trans (f3.mono f2.size)).mono HB6.out.size)); have HX3 := hdL hx3
     have hsl := sless_any v3 _ Tb es _ _ (HSG.out.below HB7.out)
     have HSL := hdL hsl
     have q4 := cOh hx3 4
     have q9 := cOh hx3 9
     have hnn : ((j : Int) == (j : Int)) = true := by simp
     have hadd1 : IntKind.i64.wrap ((j : Int) + 1) = (j : Int) + 1 := IntWalk.i64_in _ (by omega)
     have hadd2 : IntKind.i64.wrap ((j : Int) + 1 + ((j : Int) + 1)) = (j : Int) + 1 + ((j : Int) + 1) := IntWalk.i64_in _ (by omega)
     have hm : (2 * (j : Int) + 2 == (j : Int) + 1 + ((j : Int) + 1)) = true := by rw [beq_iff_eq]; omega
     clear f2 f3 hx3 y1 y2 hsl
     go_wp2_with fail
     refine HSL.out.mono ?_
     rintro e v4 ⟨al, cl, rfl, hr, f4⟩
     have HB8 := hdL (HB7.out.trans (f4.mono HB7.out.size))
     clear hr f4
     have HMD := hdL (smade_any v4 _ Tb es _ _ (HSG.out.below HB8.out))
     go_wp2_with fail
     refine HMD.out.mono ?_
     rintro e v5 ⟨rfl, rfl⟩
     go_wp2_with fail
     go_ret
     exact ⟨by first | rfl | simp [hm], HB5.out.trans (HB8.out.mono HB5.out.size)⟩
end Go.Proofs.YtaagkndhgicifaaGreat
