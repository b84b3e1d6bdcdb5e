/- DERIVED. Texts of this claim, put together: StkCopyB, StkCopyC, StkAt, RegU, StkCopyR. -/
import Derived.Test.YtaagkndhgicifaaGreatSv04
import Derived.OrdersHeld
import Derived.Deep.RegionHeld3
namespace Go.Proofs.YtaagkndhgicifaaGreat
set_option maxHeartbeats 32000000
open Go.RowKit
set_option linter.unusedVariables false
set_option maxRecDepth 100000
theorem DepsAt.row {Z : Zone} {w : World} {v : Value} {ds : List Dp} (h : DepsAt Z w v ds) : ∃ xs : List Value, xs.length = ds.length * 2 ∧ DepsI (fun _ => Z) w ds xs ∧ Src Tryz.prog 2 60 v ds.length xs w := by
 obtain ⟨a, c, rfl, h1, h2⟩ := h
 cases a with
 | none =>
  obtain ⟨e1, rfl⟩ := h1.nil rfl
  obtain rfl : ds = [] := eN0 e1
  exact ⟨[], rfl, (fun i d h => by cases h), Src.ofNil w Tryz.underlying60 0⟩
 | some ad =>
  by_cases hne : ds = []
  ·subst hne
   exact ⟨[], rfl, (fun i d h => by cases h), Src.ofSlice w Tryz.underlying60 ad 0 c [] rfl (fun j u hj => by cases hj) (fun u hu => by cases hu)⟩
  ·obtain ⟨b, o, e, _, _, h3⟩ := h2 hne
   obtain rfl := sIj e
   obtain ⟨xs, g1, g2, g3, g4⟩ := deps_row h3
   exact ⟨xs, g1, g2, Src.ofSlice w Tryz.underlying60 ⟨b, o, none⟩ ds.length c xs g1 (fun j u hj => by rw [Addr.add_lit]; exact g4 j u hj) g3⟩
def CloneD (w : World) (ds : List Dp) (e : Ending) (w' : World) : Prop := ∃ a c xs, e = .returned (.slice a ds.length c) ∧ w'.ownsRow w.heap.size 59 2 (.slice a ds.length c) ds.length xs ∧ DepsI (fun _ => zLt w.heap.size) w' ds xs ∧ Below w.heap.size w w'
theorem dclone_any (w : World) (Z : Zone) (v : Value) (ds : List Dp) (h : DepsAt Z w v ds) (hl : ds.length ≤ 1000000) :
  Calls Tryz.prog 107 #[v] w (CloneD w ds) := by
 have hq := fun (w : World) (a : Option Addr) (n c : Nat) => Lib.run_eql_slice_nil (P := Tryz.prog) w 60 59 a n c 0 0 Tryz.underlying60
 have h0 := h
 obtain ⟨a, c, rfl, hb, -⟩ := h0
 cases a with
 | none =>
  obtain ⟨h1, rfl⟩ := hb.nil rfl
  obtain rfl : ds = [] := eN0 h1
  clear h hb h1
  go_enter Tryz.func107, Tryz.ntmps107
  go_wp2
  go_ret
  exact ⟨none, 0, [], rfl, World.ownsRow_nil _ _ _ _, (fun i d h => by cases h), Below.refl _ _⟩
 | some ad =>
  have hb1 : Below w.heap.size w (w.alloc (.cells #[] 59)) := (Below.refl _ w).alloc (Nat.le_refl _) _
  obtain ⟨i0, hi, hz0, hz1, hz2⟩ := info_parts infoDep
  obtain ⟨xs, hxl, hdi, hsrc⟩ := ((h.keep (Z' := zLt w.heap.size) ⟨fun b hb _ => hb, Nat.le_refl _, fun _ _ _ h => h⟩).below hb1).row
  have HB1 := hdL hb1; have HDI := hdL hdi
  have HKP : ∀ w', (w.alloc (.cells #[] 59)).grownBy w' (some w.heap.size) → Keep (zLt w.heap.size) (zLt w.heap.size) (w.alloc (.cells #[] 59)) w' := fun w' hg => Keep.of_block (fun _ _ h => h) hg.size (fun b hb hz => hg.block b hb (fun e => by have := sIj e; unfold zLt at hz; omega))
  obtain ⟨n, hn⟩ : ∃ n, n = ds.length := ⟨_, rfl⟩
  rw [← hn] at hsrc hl ⊢
  unfold CloneD
  rw [← hn]
  clear h hb1 hb hn hxl hdi
  go_enter Tryz.func107, Tryz.ntmps107
  go_wp2_with (at_builtin; refine wpList_append_srcs rfl (.tmp 5) (.tmp 6) 60 60 rfl w.heap.size 59 i0 _ 2 40 Tryz.underlying60 hi hz0 hz1 hz2 rfl (by decide) (.slice (some ⟨w.heap.size, 0, none⟩) 0 0) rfl 0 [] (owns_none w 59 2 (by decide)) (.slice (some ad) n c) rfl _ _ hsrc (by unfold maxLen; omega) (by omega) (by simp) ?_; intro a' c' w' hown hgrow hnil _; simp only [Nat.zero_add, List.nil_append] at hown)
  go_wp2
  go_ret
  have hbel : Below w.heap.size w w' := HB1.out.grown hgrow HB1.out.size (fun k e => Nat.le_of_eq (show w.heap.size = k from sIj e))
  exact ⟨a', c', xs, rfl, hown, HDI.out.keep (fun _ => HKP w' hgrow), hbel⟩
theorem owns_set {w : World} {base n c g i sz : Nat} {e : TypeId} {xs : List Value} (h : w.ownsRow base e sz (.slice (some ⟨g, 0, none⟩) n c) n xs) (v : Value) : (w.setCell ⟨g, i, none⟩ v).ownsRow base e sz (.slice (some ⟨g, 0, none⟩) n c) n (xs.set i v) := by
 rcases h.2 with ⟨e1, _⟩ | ⟨g', cap, cur, e1, h1, h2, h3, h4, h5, h6⟩
 ·cases e1
 ·obtain ⟨e2, _, rfl⟩ := Value.slice.inj e1
  obtain rfl : g = g' := by injection e2 with e2; injection e2
  refine ⟨by rw [List.length_set]; exact h.1, .inr ⟨g, c, _, rfl, h1, heap_setCell_here _ h2, h3, h4, by simpa using h5, ?_⟩⟩
  rw [← h6, Array.toList_setIfInBounds, List.take_set]
def zMix (base g k : Nat) (i : Nat) : Zone := if i < k then fun b => base ≤ b ∧ b ≠ g else zLt base
theorem zMix_ne {base g k i b : Nat} (hg : base ≤ g) (h : zMix base g k i b) : b ≠ g := by
 unfold zMix at h
 split at h
 ·exact h.2
 ·unfold zLt at h; omega
theorem mix_step {w w2 : World} {base g k : Nat} {ds : List Dp} {xs : List Value} {v1 : Value} {d : Dp} (hg : base ≤ g) (hgl : g < w.heap.size) (hb : base ≤ w.heap.size) (h : DepsI (zMix base g k) w ds xs) (hd : ds[k]? = some d) (hxl : xs.length = ds.length * 2)
  (hw2 : Below w.heap.size w w2) (hv : GapsAt (zNew w.heap.size) w2 v1 d.2) : DepsI (zMix base g (k + 1)) (w2.setCell ⟨g, k * 2 + 1, none⟩ v1) ds (xs.set (k * 2 + 1) v1) := by
 have hkl := (gEs.1 hd).1
 have hot : ∀ b, b ≠ g → (w2.setCell ⟨g, k * 2 + 1, none⟩ v1).heap[b]? = w2.heap[b]? := fun b hb => bHs _ _ _ _ (by simpa using hb)
 have hsz : w2.heap.size ≤ (w2.setCell ⟨g, k * 2 + 1, none⟩ v1).heap.size := by simp [World.setCell]
 intro i e hi
 obtain ⟨u0, u1, h0, h1, h2⟩ := h i e hi
 by_cases hik : i = k
 ·subst hik
  rw [hd] at hi
  obtain rfl := sIj hi
  refine ⟨u0, v1, ?_, ?_, h2.1, h2.2.1, ?_⟩
  ·rw [List.getElem?_set_ne (by omega)]; exact h0
  ·rw [List.getElem?_set_self (by omega)]
  ·refine hv.keep (Keep.of_block (fun b hb2 hz => ?_) hsz (fun b hb2 hz => hot b (by unfold zNew at hz; omega)))
   unfold zMix
   rw [if_pos (by omega)]
   unfold zNew at hz
   exact ⟨by omega, by omega⟩
 ·refine ⟨u0, u1, ?_, ?_, ?_⟩
  ·rw [List.getElem?_set_ne (by omega)]; exact h0
  ·rw [List.getElem?_set_ne (by omega)]; exact h1
  ·refine (h2.below hw2).keep (Keep.of_block (fun b hb2 hz => ?_) hsz (fun b hb2 hz => hot b (zMix_ne hg hz)))
   unfold zMix at hz ⊢
   by_cases hlt : i < k
   ·rw [if_pos hlt] at hz
    rw [if_pos (by omega)]
    exact hz
   ·rw [if_neg hlt] at hz
    rw [if_neg (by omega)]
    exact hz
theorem owns_deps {w : World} {base : Nat} {v : Value} {ds : List Dp} {xs : List Value} (h : w.ownsRow base 59 2 v ds.length xs) (hn : ds.length ≤ 8796093022208) (hd : DepsI (fun _ => zNew base) w ds xs) : DepsAt (zNew base) w v ds := by
 obtain ⟨a, c, rfl, hb, hc⟩ := owns_shape h hn
 refine ⟨a, c, rfl, hb, fun hne => ?_⟩
 obtain ⟨g, rfl, h1, h2, h3⟩ := hc (fun e => hne (eN0 e))
 refine ⟨g, 0, rfl, h1, h2, fun i d hi => ?_⟩
 obtain ⟨v0, v1, g0, g1, g2⟩ := hd i d hi
 rw [Nat.zero_add]
 exact ⟨v0, v1, h3 _ _ g0, h3 _ _ g1, g2⟩
theorem DepsI.keepn {P Q : Nat → Zone} {w w' : World} {ds : List Dp} {xs : List Value} (h : DepsI P w ds xs) (hk : ∀ i, i < ds.length → Keep (P i) (Q i) w w') : DepsI Q w' ds xs := by
 intro i d hi
 obtain ⟨v0, v1, h0, h1, h2⟩ := h i d hi
 exact ⟨v0, v1, h0, h1, h2.keep (hk i (gEs.1 hi).1)⟩
def OwnDeps (base : Nat) (w : World) (v : Value) (ds : List Dp) : Prop := ∃ xs, w.ownsRow base 59 2 v ds.length xs ∧ DepsI (fun _ b => base ≤ b ∧ v.ownBlock ≠ some b) w ds xs ∧ ds.length ≤ 8796093022208
theorem OwnDeps.deps {base : Nat} {w : World} {v : Value} {ds : List Dp} (h : OwnDeps base w v ds) : DepsAt (zNew base) w v ds := by
 obtain ⟨xs, h1, h2, h3⟩ := h
 exact owns_deps h1 h3 (h2.keep (fun i => ⟨fun b _ hz => hz.1, Nat.le_refl _, fun _ _ _ h => h⟩))
theorem OwnDeps.keepB {base base' : Nat} {w w' : World} {v : Value} {ds : List Dp} (h : OwnDeps base w v ds) (hle : base' ≤ base) (hs : w.heap.size ≤ w'.heap.size) (hb : ∀ b, base ≤ b → b < w.heap.size → w'.heap[b]? = w.heap[b]?) : OwnDeps base' w' v ds := by
 obtain ⟨xs, h1, h2, h3⟩ := h
 refine ⟨xs, ⟨h1.1, ?_⟩, h2.keep (fun i => Keep.of_block (fun b _ hz => ⟨Nat.le_trans hle hz.1, hz.2⟩) hs (fun b hl hz => hb b hz.1 hl)), h3⟩
 rcases h1.2 with h | ⟨g, cap, cur, e, hg, hgb, rest⟩
 ·exact .inl h
 ·exact .inr ⟨g, cap, cur, e, Nat.le_trans hle hg, (hb g hg (loh hgb)).trans hgb, rest⟩
theorem mix_own {base g k i n c : Nat} {w : World} (h : i < k) : Keep (zMix base g k i) (fun b => base ≤ b ∧ (Value.slice (some ⟨g, 0, none⟩) n c).ownBlock ≠ some b) w w :=
 ⟨fun b _ hz => by
  unfold zMix at hz
  rw [if_pos h] at hz
  exact ⟨hz.1, fun e => hz.2 (sIj e).symm⟩, Nat.le_refl _, fun _ _ _ h => h⟩
def CopyD (w : World) (ds : List Dp) (e : Ending) (w' : World) : Prop := ∃ a c, e = .returned (.slice a ds.length c) ∧ OwnDeps w.heap.size w' (.slice a ds.length c) ds ∧ Below w.heap.size w w'
theorem dcopy_any (w : World) (Z : Zone) (v : Value) (ds : List Dp) (h : DepsAt Z w v ds) (hl : ds.length ≤ 1000000) (hr : ∀ d ∈ ds, d.2.length ≤ 1000000) :
  Calls Tryz.prog 106 #[v] w (CopyD w ds) := by
 have HC := hdL (dclone_any w Z v ds h hl)
 obtain ⟨n, hn⟩ : ∃ n, n = ds.length := ⟨_, rfl⟩
 have hnl : n ≤ 1000000 := by omega
 have HN := hdL hn; have HR := hdL hr
 unfold CopyD
 rw [← hn]
 clear h hl hn hr
 go_enter Tryz.func106, Tryz.ntmps106
 go_wp2_with fail
 refine HC.out.mono ?_
 rintro e w1 ⟨a, c, xs0, rfl, hown, hdi, hb1⟩
 rw [← HN.out] at hown ⊢
 by_cases hn0 : n = 0
 ·have hd0 : ds = [] := eN0 (by rw [← HN.out]; exact hn0)
  have hfin : OwnDeps w.heap.size w1 (.slice a n c) ds := ⟨xs0, by rw [← HN.out]; exact hown, by rw [hd0]; exact (fun i d h => by cases h), by rw [hd0]; simp⟩
  have HF := hdL hfin; have HB := hdL hb1
  subst hn0
  clear hown hdi hb1 hd0 hfin
  go_wp2_with fail
  go_loopw [9] (fun x wr => x = .int .i64 0 ∧ w1 = wr) (fun x _ => 0)
  case atStart => exact ⟨rfl, rfl⟩
  case round =>
   obtain ⟨rfl, rfl⟩ := hrel
   go_wp2_with fail
   go_ret
   exact ⟨a, c, rfl, HF.out, HB.out⟩
 ·obtain ⟨g, rfl⟩ : ∃ g, a = some ⟨g, 0, none⟩ := by
   rcases hown.2 with ⟨_, e⟩ | ⟨g, cap, cur, e, _⟩
   ·exact absurd e hn0
   ·exact ⟨g, (Value.slice.inj e).1⟩
  have hgb := owns_ge hown g rfl
  have hgl := owns_lt hown g rfl
  have hxl0 := hown.1
  have HG := hdL (And.intro hgb (And.intro hgl hb1.size))
  have h0 : DepsI (zMix w.heap.size g 0) w1 ds xs0 := by
   have : zMix w.heap.size g 0 = fun _ => zLt w.heap.size := by
    funext i
    unfold zMix
    rw [if_neg (Nat.not_lt_zero _)]
   rw [this]; exact hdi
  have HO := hdL hown; have HD := hdL h0; have HB := hdL hb1
  clear hown hdi hb1 hgb hgl hxl0 h0 hn0
  go_wp2_with fail
  go_loopw [9] (fun x wr => ∃ (k : Nat) (xs : List Value), x = .int .i64 k ∧ k ≤ n ∧ Hid (wr.ownsRow w.heap.size 59 2 (.slice (some ⟨g, 0, none⟩) n c) n xs) ∧ Hid (DepsI (zMix w.heap.size g k) wr ds xs) ∧ Hid (Below w.heap.size w wr)) (fun x _ => n - (intOf x).toNat)
  case atStart => exact ⟨0, xs0, rfl, Nat.zero_le _, HO, HD, HB⟩
  case round =>
   obtain ⟨k, xs, rfl, hkn, hown, hdi, hbw⟩ := hrel
   by_cases hlt : k < n
   ·obtain ⟨d, hd⟩ : ∃ d, ds[k]? = some d := ⟨_, gEg (by rw [← HN.out]; exact hlt)⟩
    obtain ⟨v0, v1, x0, x1, hda⟩ := hdi.out k d hd
    have hgl := owns_lt hown.out g rfl
    have hrd : ∀ (j : Nat) u, xs[j]? = some u → wr.cell? ⟨g, j, none⟩ = some u := by
     obtain ⟨a', c', e, _, h3⟩ := owns_shape hown.out (by omega)
     obtain ⟨g', e2, _, _, h4⟩ := h3 (by omega)
     obtain ⟨e3, _, _⟩ := Value.slice.inj e
     rw [e2] at e3
     injection e3 with e3
     injection e3 with e3
     rw [e3]; exact h4
    have c1 := hrd _ _ x1
    obtain ⟨h1, h2, h3⟩ := hda
    have h3' := h3
    obtain ⟨ag, cg, rfl, -⟩ := h3'
    have hcl := gclone_any wr _ _ d.2 h3 (HR.out d (List.mem_of_getElem? hd))
    unfold CloneG at hcl
    obtain ⟨m, hm⟩ : ∃ m, m = d.2.length := ⟨_, rfl⟩
    rw [← hm] at c1 hcl
    have hf : wr.frozen? ⟨g, k * 2 + 1, none⟩ = false := by
     rcases hown.out.2 with ⟨e, _⟩ | ⟨g', cap, cur, e, _, h2, _⟩
     ·cases e
     ·obtain ⟨e1, _, _⟩ := Value.slice.inj e
      obtain rfl : g = g' := by injection e1 with e1; injection e1
      exact foh h2 _
    have HCL := hdL hcl; have HDD := hdL hd; have HXL := hdL hown.out.1
    have HGL := hdL hgl
    have HF := hdL hf; have HC1 := hdL c1
    clear hd x0 x1 h1 h2 h3 hcl hrd hgl hf hm
    go_wp2_with fail
    refine HCL.out.mono ?_
    rintro e w2 ⟨a2, c2, rfl, hg2, h2⟩
    have z1 := bkp h2 _ _ HC1.out
    have zf : w2.frozen? ⟨g, k * 2 + 1, none⟩ = false := by rw [h2.frozen (p := ⟨g, k * 2 + 1, none⟩) HGL.out]; exact HF.out
    have hown2 := owns_set (i := k * 2 + 1) (ownsRow_keep (w' := w2) hown.out (fun q hq => h2.block q (owns_lt hown.out q hq))) (.slice a2 m c2)
    have hms := mix_step HG.out.1 HGL.out hbw.out.size hdi.out HDD.out (by rw [HXL.out, HN.out]) h2 hg2
    have hbn := (hbw.out.trans (h2.mono hbw.out.size)).setCell (p := ⟨g, k * 2 + 1, none⟩) HG.out.1 (.slice a2 m c2)
    have HO2 := hdL hown2; have HM2 := hdL hms; have HB2 := hdL hbn
    clear hg2 h2 hown2 hms hbn c1
    go_wp2_with fail
    go_roundw
    case rel => exact ⟨k + 1, _, by go_num, hlt, HO2, HM2, HB2⟩
    case measure => simp [intOf]; omega
   ·obtain rfl : k = n := by omega
    have hfin : OwnDeps w.heap.size wr (.slice (some ⟨g, 0, none⟩) k c) ds := ⟨xs, by rw [← HN.out]; exact hown.out, hdi.out.keepn (Q := fun _ b => w.heap.size ≤ b ∧ (Value.slice (some ⟨g, 0, none⟩) k c).ownBlock ≠ some b) (fun i hi => mix_own (by rw [HN.out]; exact hi)), by rw [← HN.out]; omega⟩
    have HF := hdL hfin; have HB2 := hbw
    clear hfin hown hdi
    go_wp2_with fail
    go_ret
    exact ⟨_, _, rfl, HF.out, HB2.out⟩
structure Small (r : Rc) : Prop where
 tool : r.tool.2.length ≤ 1000000
 build : r.build.length ≤ 1000000
 run : r.run.length ≤ 1000000
 bs : ∀ d ∈ r.build, d.2.length ≤ 1000000
 rs : ∀ d ∈ r.run, d.2.length ≤ 1000000
theorem small_good {r : Rc} (h : goodRc r = true) : Small r := by
 have key : ∀ d, depB d = true → d.2.length ≤ 16 := fun d hd => by
  unfold depB rangeB at hd
  simp only [Bool.and_eq_true, decide_eq_true_eq] at hd
  exact hd.2.2
 have keys : ∀ l, depsB l = true → l.length ≤ 8 ∧ ∀ d ∈ l, d.2.length ≤ 16 := fun l hl => by
  unfold depsB at hl
  simp only [Bool.and_eq_true, decide_eq_true_eq] at hl
  exact ⟨hl.1, fun d hd => key d (List.all_eq_true.1 hl.2.1 d hd)⟩
 unfold goodRc at h
 simp only [Bool.and_eq_true] at h
 obtain ⟨_, h1, h2, h3⟩ := h
 have g1 := key _ h1
 have g2 := keys _ h2
 have g3 := keys _ h3
 exact ⟨by omega, by omega, by omega, fun d hd => by have := g2.2 d hd; omega, fun d hd => by have := g3.2 d hd; omega⟩
def EntV (Z : Zone) (w : World) (l : List Value) : En → Prop
 | none => l = [.bool true, .string ⟨#[]⟩, .int .i64 0, .int .i64 0, .int .i64 0, .string ⟨#[]⟩, .slice none 0 0, .slice none 0 0, .slice none 0 0]
 | some r => ∃ rs, l = .bool false :: rs ∧ RecAt Z w rs r ∧ goodRc r = true
theorem EntV.keep {Z Z' : Zone} {w w' : World} {l : List Value} {e : En} (hk : Keep Z Z' w w') (h : EntV Z w l e) : EntV Z' w' l e := by
 cases e with
 | none => exact h
 | some r =>
  obtain ⟨rs, h1, h2, h3⟩ := h
  exact ⟨rs, h1, h2.keep hk, h3⟩
theorem EntV.shp {Z : Zone} {w : World} {l : List Value} {e : En} (h : EntV Z w l e) : Shp l := by
 cases e with
 | none => exact ⟨true, ⟨#[]⟩, 0, 0, 0, ⟨#[]⟩, none, 0, 0, none, 0, 0, none, 0, 0, h⟩
 | some r =>
  obtain ⟨rs, rfl, h2, -⟩ := h
  obtain ⟨s, t, a1, n1, c1, a2, n2, c2, a3, n3, c3, rfl, -⟩ := h2.shape
  exact ⟨false, s, _, _, _, t, a1, n1, c1, a2, n2, c2, a3, n3, c3, rfl⟩
structure E where
 name : List UInt8
 S : Nat
 v : Value
 L : Sh
 rows : List (KV Int)
def E.foot (e : E) : List Nat := shFoot e.S e.v
def RowsL (Z : Zone) (w : World) (rows : List (KV Int)) (L : Sh) : Prop := rows.length = L.length ∧ ∀ (i : Nat) p x, rows[i]? = some p → L[i]? = some x → p.1 = x.1 ∧ EntV Z w p.2 x.2
theorem RowsL.keep {Z Z' : Zone} {w w' : World} {rows : List (KV Int)} {L : Sh} (hk : Keep Z Z' w w') (h : RowsL Z w rows L) : RowsL Z' w' rows L :=
 ⟨h.1, fun i p x hp hx => ⟨(h.2 i p x hp hx).1, (h.2 i p x hp hx).2.keep hk⟩⟩
def ptrs (es : List E) : List (KV (List UInt8)) := es.map fun e => (e.name, [.pointer (some ⟨e.S, 0, none⟩)])
def tabOf (es : List E) : Tb := es.map fun e => (e.name, e.L)
def footOf (B N : Nat) (vN : Value) (es : List E) : List Nat := B :: (shFoot N vN ++ es.flatMap E.foot)
def zOut (Y : Zone) (F : List Nat) : Zone := fun b => b ∉ F ∧ Y b
structure StkCore (Y : Zone) (w : World) (B N : Nat) (vN : Value) (es : List E) (st : St) (ns nr : Nat) : Prop where
 cells : w.heap[B]? = some (.cells #[.pointer (some ⟨N, 0, none⟩), .int .i64 ns, .int .i64 nr] 116 (0, 0))
 names : ShSAt w N vN (ptrs es)
 each : ∀ e ∈ es, ShIAt w e.S e.v e.rows ∧ RowsL (zOut Y (footOf B N vN es)) w e.rows e.L
 nodup : (footOf B N vN es).Nodup
 tab : TabT (tabOf es) st
 ok : st.Ok
 few : st.seeds.length ≤ 8 ∧ st.recs.length ≤ 32
structure StkIn (Y : Zone) (w : World) (B N : Nat) (vN : Value) (es : List E) (st : St) (ns nr : Nat) : Prop extends StkCore Y w B N vN es st ns nr where
 many : es.length ≤ st.seeds.length + st.recs.length ∧ ∀ e ∈ es, e.rows.length ≤ st.seeds.length + st.recs.length
def StkAtY (Y : Zone) (w : World) (B : Nat) (F : List Nat) (st : St) : Prop := ∃ N vN es, F = footOf B N vN es ∧ StkIn Y w B N vN es st st.seeds.length st.recs.length
abbrev StkAt (w : World) (B : Nat) (F : List Nat) (st : St) : Prop := StkAtY zAll w B F st
theorem foot_mem {B N : Nat} {vN : Value} {es : List E} {e : E} (he : e ∈ es) {b : Nat} (hb : b ∈ e.foot) : b ∈ footOf B N vN es := by
 unfold footOf
 refine mCm _ (List.mem_append_right _ ?_)
 exact List.mem_flatMap.2 ⟨e, he, hb⟩
variable {Y : Zone}
theorem StkCore.lt {w : World} {B N : Nat} {vN : Value} {es : List E} {st : St} {ns nr : Nat} (h : StkCore Y w B N vN es st ns nr) : ∀ b ∈ footOf B N vN es, b < w.heap.size := by
 intro b hb
 unfold footOf at hb
 rcases List.mem_cons.1 hb with rfl | hb
 ·exact loh h.cells
 ·rcases List.mem_append.1 hb with hb | hb
  ·exact h.names.lt b hb
  ·obtain ⟨e, he, hb⟩ := List.mem_flatMap.1 hb
   exact (h.each e he).1.lt b hb
theorem StkCore.keep {w w' : World} {B N : Nat} {vN : Value} {es : List E} {st : St} {ns nr : Nat} (h : StkCore Y w B N vN es st ns nr) (hs : w.heap.size ≤ w'.heap.size) (hb : ∀ b, b < w.heap.size → w'.heap[b]? = w.heap[b]?) : StkCore Y w' B N vN es st ns nr := by
 have hk : Keep (zOut Y (footOf B N vN es)) (zOut Y (footOf B N vN es)) w w' := Keep.of_block (fun _ _ h => h) hs (fun b hl _ => hb b hl)
 exact ⟨(hb B (loh h.cells)).trans h.cells, h.names.keep (fun k hk => hb k (h.names.lt k hk)), fun e he => ⟨(h.each e he).1.keep (fun k hk => hb k ((h.each e he).1.lt k hk)), (h.each e he).2.keep hk⟩, h.nodup, h.tab, h.ok, h.few⟩
theorem StkIn.keep {w w' : World} {B N : Nat} {vN : Value} {es : List E} {st : St} {ns nr : Nat} (h : StkIn Y w B N vN es st ns nr) (hs : w.heap.size ≤ w'.heap.size) (hb : ∀ b, b < w.heap.size → w'.heap[b]? = w.heap[b]?) : StkIn Y w' B N vN es st ns nr := ⟨h.toStkCore.keep hs hb, h.many⟩
theorem StkAtY.below {w w' : World} {B : Nat} {F : List Nat} {st : St} (h : StkAtY Y w B F st) (hb : Below w.heap.size w w') : StkAtY Y w' B F st := by
 obtain ⟨N, vN, es, hF, h⟩ := h
 exact ⟨N, vN, es, hF, h.keep hb.size hb.block⟩
theorem StkAtY.lt {w : World} {B : Nat} {F : List Nat} {st : St} (h : StkAtY Y w B F st) : ∀ b ∈ F, b < w.heap.size := by
 obtain ⟨N, vN, es, rfl, h⟩ := h
 exact h.toStkCore.lt
theorem StkAtY.keepF {Y' : Zone} {w w' : World} {B : Nat} {F : List Nat} {st : St} (h : StkAtY Y w B F st) (hs : w.heap.size ≤ w'.heap.size) (hY : ∀ b, b < w.heap.size → Y b → Y' b) (hb : ∀ b, b < w.heap.size → (b ∈ F ∨ Y b) → w'.heap[b]? = w.heap[b]?) : StkAtY Y' w' B F st := by
 obtain ⟨N, vN, es, rfl, h⟩ := h
 have hk : Keep (zOut Y (footOf B N vN es)) (zOut Y' (footOf B N vN es)) w w' := Keep.of_block (fun b hl hz => ⟨hz.1, hY b hl hz.2⟩) hs (fun b hl hz => hb b hl (.inr hz.2))
 have hf : ∀ b ∈ footOf B N vN es, w'.heap[b]? = w.heap[b]? := fun b hm => hb b (h.toStkCore.lt b hm) (.inl hm)
 exact ⟨N, vN, es, rfl, ⟨(hf B mCs).trans h.cells, h.names.keep (fun k hk => hf k (mCm _ (List.mem_append_left _ hk))), fun e he => ⟨(h.each e he).1.keep (fun k hk => hf k (foot_mem he hk)), (h.each e he).2.keep hk⟩, h.nodup, h.tab, h.ok, h.few⟩, h.many⟩
section
variable {P : Program} {ops : Array Oper} {Q : Exit → Act → World → Prop} {md : Region.Mode} {S : World → Prop} {k : Nat}
def UpTo (P : Program) (md : Region.Mode) (ops : Array Oper) (Q : Exit → Act → World → Prop) (S : World → Prop) (k : Nat) : Nat → Array Bool → Act → World → Prop
 | 0, listed, a, w => Region.ready md ops listed = [] ∧ Q .normal a w
 | fuel + 1, listed, a, w =>
  (Region.ready md ops listed = [] → Q .normal a w) ∧
  ∀ i ∈ Region.ready md ops listed, wpOp P ops Q i (fun a' w' => ((listed.setIfInBounds i true).getD k true = false → S w') ∧ UpTo P md ops Q S k fuel (listed.setIfInBounds i true) a' w') a w
theorem UpTo.any : ∀ (fuel : Nat) (listed : Array Bool) (a : Act) (w : World), UpTo P md ops Q S k fuel listed a w → wpAny P md ops Q fuel listed a w
 | 0, _, _, _, h => h
 | fuel + 1, _, _, _, h => ⟨h.1, fun i hi => wpOp_mono (fun a' w' h' => UpTo.any fuel _ a' w' h'.2) (h.2 i hi)⟩
def waitsB (md : Region.Mode) (ops : Array Oper) (k i : Nat) : Bool := match ops[k]? with
 | some o => o.after.any (fun e => Region.binds md e && e.on == i)
 | none => false
theorem UpTo.first {i : Nat} {oi : Oper} {v : Value} (hi : ops[i]? = some oi) (hsel : ∀ (j : Nat) (o : Oper) cs b, ops[j]? = some o → o.op ≠ .select cs b)
  (hQ : ∀ c a w, Q (.panic c) (a.put oi.dst v) w → Q (.panic c) a w) (hki : k ≠ i) (hwk : waitsB md ops k i = true) :
  ∀ (fuel : Nat) (listed : Array Bool) (a : Act) (w : World),
   (∀ j oj, ops[j]? = some oj → j ≠ i → listed.getD j true = false → (∀ e ∈ oj.after, Region.binds md e = true → e.on ≠ i) → oi.apart ops oj = true) →
   i ∈ Region.ready md ops listed → YieldsIf P ops S oi v a → S w → listed.getD k true = false →
   UpTo P md ops Q S k fuel (listed.setIfInBounds i true) (a.put oi.dst v) w → UpTo P md ops Q S k (fuel + 1) listed a w := by
 intro fuel
 induction fuel with
 | zero =>
  intro listed a w _ hr hy hS hkl H
  refine ⟨fun h => (by rw [h] at hr; cases hr), fun j hj => ?_⟩
  by_cases hji : j = i
  ·subst hji; exact hy.wpOp hi hS ⟨fun _ => hS, H⟩
  ·have := ready_mono hj hji
   rw [H.1] at this
   cases this
 | succ fuel ih =>
  intro listed a w hfree hr hy hS hkl H
  refine ⟨fun h => (by rw [h] at hr; cases hr), fun j hj => ?_⟩
  by_cases hji : j = i
  ·subst hji; exact hy.wpOp hi hS ⟨fun _ => hS, H⟩
  ·have h1 := H.2 j (ready_mono hj hji)
   obtain ⟨hjun, oj, hoj, hall⟩ := mem_ready.1 hj
   have hnot : ∀ e ∈ oj.after, Region.binds md e = true → e.on ≠ i := fun e he hb heq => by
    have h1 := hall e he hb
    have h0 := (mem_ready.1 hr).1
    rw [heq] at h1
    rcases Nat.lt_or_ge i listed.size with h' | h'
    ·simp [h'] at h0 h1; rw [h0] at h1; cases h1
    ·simp [Array.getElem?_eq_none h'] at h1
   have hjk : j ≠ k := by
    rintro rfl
    unfold waitsB at hwk
    rw [hoj] at hwk
    obtain ⟨e, he, hb⟩ := Array.any_eq_true'.1 hwk
    rw [Bool.and_eq_true] at hb
    exact hnot e he hb.1 (by simpa using hb.2)
   have h2 := wpOp_putIf hoj (hfree j oj hoj hji hjun hnot) (fun cs b => hsel i oi cs b hi) (fun cs b => hsel j oj cs b hoj) hQ hy h1
   have hfree' : ∀ k ok, ops[k]? = some ok → k ≠ i → (listed.setIfInBounds j true).getD k true = false →
     (∀ e ∈ ok.after, Region.binds md e = true → e.on ≠ i) → oi.apart ops ok = true := fun k ok hk hki hun hno => by
    refine hfree k ok hk hki ?_ hno
    by_cases hjk : j = k
    ·subst hjk; exact hjun
    ·rw [getD_set_ne true hjk] at hun; exact hun
   have hkj : (listed.setIfInBounds j true).getD k true = false := by rw [getD_set_ne true hjk]; exact hkl
   have hkji : ((listed.setIfInBounds i true).setIfInBounds j true).getD k true = false := by
    rw [getD_set_ne true hjk, getD_set_ne true (fun e => hki e.symm)]; exact hkl
   refine wpOp_mono (fun a' w' h3 => ⟨fun _ => h3.2.1 hkji, ih (listed.setIfInBounds j true) a' w' hfree' (ready_mono hr (Ne.symm hji)) h3.1 (h3.2.1 hkji) hkj ?_⟩) h2
   rw [Array.setIfInBounds_comm _ _ hji]
   exact h3.2.2
theorem UpTo.take (i : Nat) {oi : Oper} {v : Value} {fuel : Nat} {listed : Array Bool} {a : Act} {w : World} (hi : ops[i]? = some oi)
  (hs : Region.noSelect ops = true) (hf : Region.free md ops listed i = true) (hr : (Region.ready md ops listed).contains i = true)
  (hw : (waitsB md ops k i && !(k == i) && !listed.getD k true) = true)
  (hQ : ∀ c a w, Q (.panic c) (a.put oi.dst v) w → Q (.panic c) a w) (hy : YieldsIf P ops S oi v a) (hS : S w)
  (h : UpTo P md ops Q S k fuel (listed.setIfInBounds i true) (a.put oi.dst v) w) : UpTo P md ops Q S k (fuel + 1) listed a w := by
 simp only [Bool.and_eq_true, Bool.not_eq_true', beq_eq_false_iff_ne] at hw
 exact UpTo.first hi (Region.noSelect_spec hs) hQ hw.1.2 hw.1.1 fuel listed a w (Region.free_spec hi hf) (by simpa using hr) hy hS hw.2 h
theorem UpTo.firstP {i : Nat} {oi : Oper} {v : Value} (hi : ops[i]? = some oi) (hsel : ∀ (j : Nat) (o : Oper) cs b, ops[j]? = some o → o.op ≠ .select cs b)
  (hQ : ∀ c a w, Q (.panic c) (a.put oi.dst v) w → Q (.panic c) a w) (hki : k ≠ i) :
  ∀ (fuel : Nat) (listed : Array Bool) (a : Act) (w : World),
   (∀ j oj, ops[j]? = some oj → j ≠ i → listed.getD j true = false → (∀ e ∈ oj.after, Region.binds md e = true → e.on ≠ i) → oi.apart ops oj = true) →
   i ∈ Region.ready md ops listed → YieldsIf P ops (fun _ => True) oi v a → (listed.getD k true = false → S w) →
   UpTo P md ops Q S k fuel (listed.setIfInBounds i true) (a.put oi.dst v) w → UpTo P md ops Q S k (fuel + 1) listed a w := by
 intro fuel
 induction fuel with
 | zero =>
  intro listed a w _ hr hy hS H
  refine ⟨fun h => (by rw [h] at hr; cases hr), fun j hj => ?_⟩
  by_cases hji : j = i
  ·subst hji; exact hy.wpOp hi trivial ⟨fun h => hS (by rw [getD_set_ne true (fun e => hki e.symm)] at h; exact h), H⟩
  ·have := ready_mono hj hji
   rw [H.1] at this
   cases this
 | succ fuel ih =>
  intro listed a w hfree hr hy hS H
  refine ⟨fun h => (by rw [h] at hr; cases hr), fun j hj => ?_⟩
  by_cases hji : j = i
  ·subst hji; exact hy.wpOp hi trivial ⟨fun h => hS (by rw [getD_set_ne true (fun e => hki e.symm)] at h; exact h), H⟩
  ·have h1 := H.2 j (ready_mono hj hji)
   obtain ⟨hjun, oj, hoj, hall⟩ := mem_ready.1 hj
   have hnot : ∀ e ∈ oj.after, Region.binds md e = true → e.on ≠ i := fun e he hb heq => by
    have h1 := hall e he hb
    have h0 := (mem_ready.1 hr).1
    rw [heq] at h1
    rcases Nat.lt_or_ge i listed.size with h' | h'
    ·simp [h'] at h0 h1; rw [h0] at h1; cases h1
    ·simp [Array.getElem?_eq_none h'] at h1
   have h2 := wpOp_putIf hoj (hfree j oj hoj hji hjun hnot) (fun cs b => hsel i oi cs b hi) (fun cs b => hsel j oj cs b hoj) hQ hy h1
   have hfree' : ∀ k ok, ops[k]? = some ok → k ≠ i → (listed.setIfInBounds j true).getD k true = false →
     (∀ e ∈ ok.after, Region.binds md e = true → e.on ≠ i) → oi.apart ops ok = true := fun k ok hk hki hun hno => by
    refine hfree k ok hk hki ?_ hno
    by_cases hjk : j = k
    ·subst hjk; exact hjun
    ·rw [getD_set_ne true hjk] at hun; exact hun
   have hkk : (listed.setIfInBounds j true).getD k true = false → ((listed.setIfInBounds i true).setIfInBounds j true).getD k true = false := fun h => by
    rw [Array.setIfInBounds_comm _ _ (fun e => hji e.symm), getD_set_ne true (fun e => hki e.symm)]; exact h
   refine wpOp_mono (fun a' w' h3 => ⟨fun h => h3.2.1 (hkk h), ih (listed.setIfInBounds j true) a' w' hfree' (ready_mono hr (Ne.symm hji)) h3.1 (fun h => h3.2.1 (hkk h)) ?_⟩) h2
   rw [Array.setIfInBounds_comm _ _ hji]
   exact h3.2.2
theorem UpTo.takeP (i : Nat) {oi : Oper} {v : Value} {fuel : Nat} {listed : Array Bool} {a : Act} {w : World} (hi : ops[i]? = some oi)
  (hs : Region.noSelect ops = true) (hf : Region.free md ops listed i = true) (hr : (Region.ready md ops listed).contains i = true)
  (hw : (!(k == i)) = true)
  (hQ : ∀ c a w, Q (.panic c) (a.put oi.dst v) w → Q (.panic c) a w) (hy : YieldsIf P ops (fun _ => True) oi v a) (hS : S w)
  (h : UpTo P md ops Q S k fuel (listed.setIfInBounds i true) (a.put oi.dst v) w) : UpTo P md ops Q S k (fuel + 1) listed a w := by
 simp only [Bool.not_eq_true', beq_eq_false_iff_ne] at hw
 exact UpTo.firstP hi (Region.noSelect_spec hs) hQ hw fuel listed a w (Region.free_spec hi hf) (by simpa using hr) hy (fun _ => hS) h
theorem UpTo.one (i : Nat) {o : Oper} {fuel : Nat} {listed : Array Bool} {a : Act} {w : World} (hr : Region.ready md ops listed = [i]) (ho : ops[i]? = some o)
  (h : ∀ K' : Act → World → Prop, Shut (∀ a w, ((listed.setIfInBounds i true).getD k true = false → S w) → UpTo P md ops Q S k fuel (listed.setIfInBounds i true) a w → K' a w) → if Region.wanted o (yielded ops a.tmps) = true then Oper.wp P o a w K' Q else K' (a.put o.dst undef) w) :
  UpTo P md ops Q S k (fuel + 1) listed a w :=
 ⟨fun h0 => (by rw [hr] at h0; cases h0), fun j hj => by
  rw [hr] at hj
  obtain rfl : j = i := by simpa using hj
  exact wpOp_step ho (fun K' hK => h K' (fun a w hS hW => hK a w ⟨hS, hW⟩))⟩
theorem UpTo.done {fuel : Nat} {listed : Array Bool} {a : Act} {w : World} (hr : Region.ready md ops listed = []) (h : Q .normal a w) : UpTo P md ops Q S k fuel listed a w := by
 cases fuel with
 | zero => exact ⟨hr, h⟩
 | succ n => exact ⟨fun _ => h, fun i hi => by rw [hr] at hi; cases hi⟩
theorem UpTo.start {id : Nat} {a : Act} {w : World} (S : World → Prop) (k : Nat) (hm : P.follows .mixedOrders = true)
  (h : UpTo P .any ops Q S k ops.size (Array.replicate ops.size false) a w.drew) : (Code.region id ops true).wp P Q a w :=
 wp_region_any hm (UpTo.any _ _ _ _ h)
end
set_option linter.unusedSimpArgs false
theorem eight_set {w : World} {B : Nat} {t : TypeId} {y0 y1 y2 y3 y4 y5 y6 y7 : Value} (h : w.heap[B]? = some (.cells #[y0, y1, y2, y3, y4, y5, y6, y7] t (0, 0))) (x0 x1 x2 x3 x4 x5 x6 x7 : Value) :
  ∃ W, ((((((((w.setCell ⟨B, 0, none⟩ x0).setCell ⟨B, 1, none⟩ x1).setCell ⟨B, 2, none⟩ x2).setCell ⟨B, 3, none⟩ x3).setCell ⟨B, 4, none⟩ x4).setCell ⟨B, 5, none⟩ x5).setCell ⟨B, 6, none⟩ x6).setCell ⟨B, 7, none⟩ x7) = W ∧ W.heap[B]? = some (.cells #[x0, x1, x2, x3, x4, x5, x6, x7] t (0, 0)) ∧ (∀ n v0, n ≤ B → Below n v0 w → Below n v0 W) ∧ (∀ k, k ≠ B → W.heap[k]? = w.heap[k]?) ∧ W.heap.size = w.heap.size := by
 have s0 := set_at 0 x0 h (ds := #[x0, y1, y2, y3, y4, y5, y6, y7]) (by simp)
 have b0 : ∀ n v0, n ≤ B → Below n v0 w → Below n v0 (w.setCell ⟨B, 0, none⟩ x0) := fun n v0 hB hb => below_set hb hB 0 x0
 have o0 : ∀ k, k ≠ B → (w.setCell ⟨B, 0, none⟩ x0).heap[k]? = w.heap[k]? := fun k hk => (bHs _ _ _ _ (by simpa using hk))
 have z0 : (w.setCell ⟨B, 0, none⟩ x0).heap.size = w.heap.size := by simp [World.setCell]
 generalize w.setCell ⟨B, 0, none⟩ x0 = w0 at s0 b0 o0 z0 ⊢
 have s1 := set_at 1 x1 s0 (ds := #[x0, x1, y2, y3, y4, y5, y6, y7]) (by simp)
 have b1 : ∀ n v0, n ≤ B → Below n v0 w → Below n v0 (w0.setCell ⟨B, 1, none⟩ x1) := fun n v0 hB hb => below_set (b0 n v0 hB hb) hB 1 x1
 have o1 : ∀ k, k ≠ B → (w0.setCell ⟨B, 1, none⟩ x1).heap[k]? = w.heap[k]? := fun k hk => (bHs _ _ _ _ (by simpa using hk)).trans (o0 k hk)
 have z1 : (w0.setCell ⟨B, 1, none⟩ x1).heap.size = w.heap.size := (show _ = w0.heap.size from by simp [World.setCell]).trans z0
 generalize w0.setCell ⟨B, 1, none⟩ x1 = w1 at s1 b1 o1 z1 ⊢
 have s2 := set_at 2 x2 s1 (ds := #[x0, x1, x2, y3, y4, y5, y6, y7]) (by simp)
 have b2 : ∀ n v0, n ≤ B → Below n v0 w → Below n v0 (w1.setCell ⟨B, 2, none⟩ x2) := fun n v0 hB hb => below_set (b1 n v0 hB hb) hB 2 x2
 have o2 : ∀ k, k ≠ B → (w1.setCell ⟨B, 2, none⟩ x2).heap[k]? = w.heap[k]? := fun k hk => (bHs _ _ _ _ (by simpa using hk)).trans (o1 k hk)
 have z2 : (w1.setCell ⟨B, 2, none⟩ x2).heap.size = w.heap.size := (show _ = w1.heap.size from by simp [World.setCell]).trans z1
 generalize w1.setCell ⟨B, 2, none⟩ x2 = w2 at s2 b2 o2 z2 ⊢
 have s3 := set_at 3 x3 s2 (ds := #[x0, x1, x2, x3, y4, y5, y6, y7]) (by simp)
 have b3 : ∀ n v0, n ≤ B → Below n v0 w → Below n v0 (w2.setCell ⟨B, 3, none⟩ x3) := fun n v0 hB hb => below_set (b2 n v0 hB hb) hB 3 x3
 have o3 : ∀ k, k ≠ B → (w2.setCell ⟨B, 3, none⟩ x3).heap[k]? = w.heap[k]? := fun k hk => (bHs _ _ _ _ (by simpa using hk)).trans (o2 k hk)
 have z3 : (w2.setCell ⟨B, 3, none⟩ x3).heap.size = w.heap.size := (show _ = w2.heap.size from by simp [World.setCell]).trans z2
 generalize w2.setCell ⟨B, 3, none⟩ x3 = w3 at s3 b3 o3 z3 ⊢
 have s4 := set_at 4 x4 s3 (ds := #[x0, x1, x2, x3, x4, y5, y6, y7]) (by simp)
 have b4 : ∀ n v0, n ≤ B → Below n v0 w → Below n v0 (w3.setCell ⟨B, 4, none⟩ x4) := fun n v0 hB hb => below_set (b3 n v0 hB hb) hB 4 x4
 have o4 : ∀ k, k ≠ B → (w3.setCell ⟨B, 4, none⟩ x4).heap[k]? = w.heap[k]? := fun k hk => (bHs _ _ _ _ (by simpa using hk)).trans (o3 k hk)
 have z4 : (w3.setCell ⟨B, 4, none⟩ x4).heap.size = w.heap.size := (show _ = w3.heap.size from by simp [World.setCell]).trans z3
 generalize w3.setCell ⟨B, 4, none⟩ x4 = w4 at s4 b4 o4 z4 ⊢
 have s5 := set_at 5 x5 s4 (ds := #[x0, x1, x2, x3, x4, x5, y6, y7]) (by simp)
 have b5 : ∀ n v0, n ≤ B → Below n v0 w → Below n v0 (w4.setCell ⟨B, 5, none⟩ x5) := fun n v0 hB hb => below_set (b4 n v0 hB hb) hB 5 x5
 have o5 : ∀ k, k ≠ B → (w4.setCell ⟨B, 5, none⟩ x5).heap[k]? = w.heap[k]? := fun k hk => (bHs _ _ _ _ (by simpa using hk)).trans (o4 k hk)
 have z5 : (w4.setCell ⟨B, 5, none⟩ x5).heap.size = w.heap.size := (show _ = w4.heap.size from by simp [World.setCell]).trans z4
 generalize w4.setCell ⟨B, 5, none⟩ x5 = w5 at s5 b5 o5 z5 ⊢
 have s6 := set_at 6 x6 s5 (ds := #[x0, x1, x2, x3, x4, x5, x6, y7]) (by simp)
 have b6 : ∀ n v0, n ≤ B → Below n v0 w → Below n v0 (w5.setCell ⟨B, 6, none⟩ x6) := fun n v0 hB hb => below_set (b5 n v0 hB hb) hB 6 x6
 have o6 : ∀ k, k ≠ B → (w5.setCell ⟨B, 6, none⟩ x6).heap[k]? = w.heap[k]? := fun k hk => (bHs _ _ _ _ (by simpa using hk)).trans (o5 k hk)
 have z6 : (w5.setCell ⟨B, 6, none⟩ x6).heap.size = w.heap.size := (show _ = w5.heap.size from by simp [World.setCell]).trans z5
 generalize w5.setCell ⟨B, 6, none⟩ x6 = w6 at s6 b6 o6 z6 ⊢
 have s7 := set_at 7 x7 s6 (ds := #[x0, x1, x2, x3, x4, x5, x6, x7]) (by simp)
 have b7 : ∀ n v0, n ≤ B → Below n v0 w → Below n v0 (w6.setCell ⟨B, 7, none⟩ x7) := fun n v0 hB hb => below_set (b6 n v0 hB hb) hB 7 x7
 have o7 : ∀ k, k ≠ B → (w6.setCell ⟨B, 7, none⟩ x7).heap[k]? = w.heap[k]? := fun k hk => (bHs _ _ _ _ (by simpa using hk)).trans (o6 k hk)
 have z7 : (w6.setCell ⟨B, 7, none⟩ x7).heap.size = w.heap.size := (show _ = w6.heap.size from by simp [World.setCell]).trans z6
 generalize w6.setCell ⟨B, 7, none⟩ x7 = w7 at s7 b7 o7 z7 ⊢
 exact ⟨w7, rfl, s7, b7, o7, z7⟩
def BuildO (base : Nat) (w : World) (vs : List Value) (r : Rc) : Prop := ∃ b0, vs[6]? = some b0 ∧ OwnDeps base w b0 r.build
def CopyR (w : World) (r : Rc) (e : Ending) (w' : World) : Prop := ∃ vs : List Value, e = .returned (.agg vs.toArray) ∧ RecAt (zNew w.heap.size) w' vs r ∧ Below w.heap.size w w' ∧ BuildO w.heap.size w' vs r
theorem scopy_any (w : World) (Z : Zone) (vs : List Value) (r : Rc) (h : RecAt Z w vs r) (hsm : Small r) : Calls Tryz.prog 63 #[.agg vs.toArray] w (CopyR w r) := by
 obtain ⟨s, t, a1, n1, c1, a2, n2, c2, a3, n3, c3, rfl, hs, hl, h1, h2, h3⟩ := h.shape
 obtain ⟨x, hx⟩ : ∃ x, x = r.pkg.2.1 := ⟨_, rfl⟩
 obtain ⟨y, hy⟩ : ∃ x, x = r.pkg.2.2.1 := ⟨_, rfl⟩
 obtain ⟨z, hz⟩ : ∃ x, x = r.pkg.2.2.2 := ⟨_, rfl⟩
 rw [← hx, ← hy, ← hz]
 obtain ⟨w1, hw1, hb1, hx1, y1, y2⟩ := aBk w #[.string s, .int .i64 x, .int .i64 y, .int .i64 z, .string t, .slice a1 n1 c1, .slice a2 n2 c2, .slice a3 n3 c3] 62
 obtain ⟨w2, hw2, hb2, hx2, y3, y4⟩ := aBk w1 #[.string ⟨#[]⟩, .int .i64 0, .int .i64 0, .int .i64 0, .string ⟨#[]⟩, .slice none 0 0, .slice none 0 0, .slice none 0 0] 62
 obtain ⟨B, hB⟩ : ∃ B, w.heap.size = B := ⟨_, rfl⟩
 obtain ⟨D, hD⟩ : ∃ D, w1.heap.size = D := ⟨_, rfl⟩
 have hb12 := hb1.trans (hb2.mono hb1.size)
 have hx12 := (hb2.block _ (by omega)).trans hx1
 rw [hB] at hx12; rw [hD] at hx2
 have e1 : n1 = r.tool.2.length := by obtain ⟨-, -, a, c, e, -⟩ := h1; exact (Value.slice.inj e).2.1
 have e2 : n2 = r.build.length := by obtain ⟨a, c, e, -⟩ := h2; exact (Value.slice.inj e).2.1
 have e3 : n3 = r.run.length := by obtain ⟨a, c, e, -⟩ := h3; exact (Value.slice.inj e).2.1
 have hG := fun W (hW : Below w2.heap.size w2 W) => gclone_any W Z _ r.tool.2 ((h1.2.2.below hb12).below hW) hsm.tool
 have hD2 := fun W (hW : Below w2.heap.size w2 W) => dcopy_any W Z _ r.build ((h2.below hb12).below hW) hsm.build hsm.bs
 have hD3 := fun W (hW : Below w2.heap.size w2 W) => dcopy_any W Z _ r.run ((h3.below hb12).below hW) hsm.run hsm.rs
 unfold CloneG at hG
 unfold CopyD at hD2 hD3
 rw [← e1] at hG; rw [← e2] at hD2; rw [← e3] at hD3
 have HG := hdL hG; have HD2 := hdL hD2; have HD3 := hdL hD3
 have HX1 := hdL hx12; have HX2 := hdL hx2; have HB := hdL hb12
 have HSZ := hdL (show w.heap.size = B ∧ D = B + 1 ∧ w2.heap.size = B + 2 from by omega)
 have HTL := hdL (show strV r.tool.1 = .string t ∧ r.tool.1.length ≤ 140737488351232 ∧ strV r.pkg.1 = .string s ∧ r.pkg.1.length ≤ 140737488351232 from ⟨h1.1.symm, h1.2.1, hs, hl⟩)
 have HV := hdL (And.intro hx (And.intro hy hz))
 have k5 : w2.cell? ⟨B, 5, none⟩ = some (.slice a1 n1 c1) := cOh hx12 5
 have k6 : w2.cell? ⟨B, 6, none⟩ = some (.slice a2 n2 c2) := cOh hx12 6
 have k7 : w2.cell? ⟨B, 7, none⟩ = some (.slice a3 n3 c3) := cOh hx12 7
 clear h h1 h2 h3 hsm hb1 hb2 hb12 hx1 hx2 hx12 y1 y2 y3 y4 e1 e2 e3 hG hD2 hD3 hs hl hx hy hz
 go_enter Tryz.func63, Tryz.ntmps63
 go_upto_region 2 with fail
 generalize Value.agg #[.string s, .int .i64 x, .int .i64 y, .int .i64 z, .string t, .slice a1 n1 c1, .slice a2 n2 c2, .slice a3 n3 c3] = z0
 clear hw1 hw2 hD
 go_cut [7, 11, 15] (fun v7 v11 v15 wx => ∃ aA cA aB cB aC cC, v7 = .slice aA n1 cA ∧ v11 = .slice aB n2 cB ∧ v15 = .slice aC n3 cC ∧ Hid (GapsAt (zNew w2.heap.size) wx (.slice aA n1 cA) r.tool.2) ∧ Hid (OwnDeps w2.heap.size wx (.slice aB n2 cB) r.build) ∧ Hid (OwnDeps w2.heap.size wx (.slice aC n3 cC) r.run) ∧ Hid (Below w.heap.size w wx) ∧ Hid (wx.heap[B]? = some (.cells #[.string s, .int .i64 x, .int .i64 y, .int .i64 z, .string t, .slice aA n1 cA, .slice aB n2 cB, .slice aC n3 cC] 62 (0, 0))) ∧ Hid (wx.heap[D]? = some (.cells #[.string ⟨#[]⟩, .int .i64 0, .int .i64 0, .int .i64 0, .string ⟨#[]⟩, .slice none 0 0, .slice none 0 0, .slice none 0 0] 62 (0, 0))))
 case first =>
  clear HTL HV
  refine UpTo.start (fun W => W.cell? ⟨B, 5, none⟩ = some (.slice a1 n1 c1) ∧ W.cell? ⟨B, 6, none⟩ = some (.slice a2 n2 c2) ∧ W.cell? ⟨B, 7, none⟩ = some (.slice a3 n3 c3)) 14 (by kernel_rfl) ?_
  have hS0 : (fun W : World => W.cell? ⟨B, 5, none⟩ = some (.slice a1 n1 c1) ∧ W.cell? ⟨B, 6, none⟩ = some (.slice a2 n2 c2) ∧ W.cell? ⟨B, 7, none⟩ = some (.slice a3 n3 c3)) w2.drew := ⟨k5, k6, k7⟩
  refine UpTo.takeP 0 (v := .pointer (some ⟨B, 4, none⟩)) rfl (by kernel_rfl) (by kernel_rfl) (by kernel_rfl) (by kernel_rfl) (fun _ _ _ h => h) (Or.inl ⟨by rfl, ?_⟩) hS0 ?_
  ·intro w hSw; rfl
  try simp only [Act.put, sqZ]
  refine UpTo.takeP 1 (v := .pointer (some ⟨B, 5, none⟩)) rfl (by kernel_rfl) (by kernel_rfl) (by kernel_rfl) (by kernel_rfl) (fun _ _ _ h => h) (Or.inl ⟨by rfl, ?_⟩) hS0 ?_
  ·intro w hSw; rfl
  try simp only [Act.put, sqZ]
  refine UpTo.take 2 (v := .slice a1 n1 c1) rfl (by kernel_rfl) (by kernel_rfl) (by kernel_rfl) (by kernel_rfl) (fun _ _ _ h => h) (Or.inl ⟨by rfl, ?_⟩) hS0 ?_
  ·intro w hSw; obtain ⟨q5, q6, q7⟩ := hSw; go_simp
  try simp only [Act.put, sqZ]
  refine UpTo.takeP 4 (v := .func (.func 106) #[] #[]) rfl (by kernel_rfl) (by kernel_rfl) (by kernel_rfl) (by kernel_rfl) (fun _ _ _ h => h) (Or.inl ⟨by rfl, ?_⟩) hS0 ?_
  ·intro w hSw; rfl
  try simp only [Act.put, sqZ]
  refine UpTo.takeP 5 (v := .pointer (some ⟨B, 6, none⟩)) rfl (by kernel_rfl) (by kernel_rfl) (by kernel_rfl) (by kernel_rfl) (fun _ _ _ h => h) (Or.inl ⟨by rfl, ?_⟩) hS0 ?_
  ·intro w hSw; rfl
  try simp only [Act.put, sqZ]
  refine UpTo.take 6 (v := .slice a2 n2 c2) rfl (by kernel_rfl) (by kernel_rfl) (by kernel_rfl) (by kernel_rfl) (fun _ _ _ h => h) (Or.inl ⟨by rfl, ?_⟩) hS0 ?_
  ·intro w hSw; obtain ⟨q5, q6, q7⟩ := hSw; go_simp
  try simp only [Act.put, sqZ]
  refine UpTo.takeP 8 (v := .func (.func 106) #[] #[]) rfl (by kernel_rfl) (by kernel_rfl) (by kernel_rfl) (by kernel_rfl) (fun _ _ _ h => h) (Or.inl ⟨by rfl, ?_⟩) hS0 ?_
  ·intro w hSw; rfl
  try simp only [Act.put, sqZ]
  refine UpTo.takeP 9 (v := .pointer (some ⟨B, 7, none⟩)) rfl (by kernel_rfl) (by kernel_rfl) (by kernel_rfl) (by kernel_rfl) (fun _ _ _ h => h) (Or.inl ⟨by rfl, ?_⟩) hS0 ?_
  ·intro w hSw; rfl
  try simp only [Act.put, sqZ]
  refine UpTo.take 10 (v := .slice a3 n3 c3) rfl (by kernel_rfl) (by kernel_rfl) (by kernel_rfl) (by kernel_rfl) (fun _ _ _ h => h) (Or.inl ⟨by rfl, ?_⟩) hS0 ?_
  ·intro w hSw; obtain ⟨q5, q6, q7⟩ := hSw; go_simp
  try simp only [Act.put, sqZ]
  refine UpTo.one 3 (by kernel_rfl) rfl (fun K hK => ?_)
  try simp only [sqG]
  go_simp
  go_at_call 108
  refine (HG.out _ ((Below.refl _ _).drew)).mono ?_
  rintro e wA ⟨aA, cA, rfl, hg, hA⟩
  have HBA := hdL (((Below.refl w2.heap.size w2).drew).trans hA)
  have HLA := hdL hA
  have HGA := hdL hg
  have hx := (HBA.out.block _ (loh HX1.out)).trans HX1.out
  clear hg hA hS0
  have hS0 : (fun W : World => W.cell? ⟨B, 5, none⟩ = some (.slice a1 n1 c1) ∧ W.cell? ⟨B, 6, none⟩ = some (.slice a2 n2 c2) ∧ W.cell? ⟨B, 7, none⟩ = some (.slice a3 n3 c3)) wA := ⟨cOh hx 5, cOh hx 6, cOh hx 7⟩
  clear hx
  try go_simp
  refine hK.out _ _ (fun _ => hS0) ?_
  clear hK K
  try simp only [Act.put, sqZ]
  refine UpTo.takeP 12 (v := .pointer (some ⟨B, 4, none⟩)) rfl (by kernel_rfl) (by kernel_rfl) (by kernel_rfl) (by kernel_rfl) (fun _ _ _ h => h) (Or.inl ⟨by rfl, ?_⟩) hS0 ?_
  ·intro w hSw; rfl
  try simp only [Act.put, sqZ]
  refine UpTo.takeP 13 (v := .pointer (some ⟨B, 5, none⟩)) rfl (by kernel_rfl) (by kernel_rfl) (by kernel_rfl) (by kernel_rfl) (fun _ _ _ h => h) (Or.inl ⟨by rfl, ?_⟩) hS0 ?_
  ·intro w hSw; rfl
  try simp only [Act.put, sqZ]
  refine UpTo.one 7 (by kernel_rfl) rfl (fun K hK => ?_)
  try simp only [sqG]
  go_simp
  go_at_call 106
  refine (HD2.out _ HBA.out).mono ?_
  rintro e wB ⟨aB, cB, rfl, hg, hA⟩
  have HBB := hdL (HBA.out.trans (hA.mono HBA.out.size))
  have HLB := hdL hA
  have HGB := hdL hg
  have hx := (HBB.out.block _ (loh HX1.out)).trans HX1.out
  clear hg hA hS0
  have hS0 : (fun W : World => W.cell? ⟨B, 5, none⟩ = some (.slice a1 n1 c1) ∧ W.cell? ⟨B, 6, none⟩ = some (.slice a2 n2 c2) ∧ W.cell? ⟨B, 7, none⟩ = some (.slice a3 n3 c3)) wB := ⟨cOh hx 5, cOh hx 6, cOh hx 7⟩
  clear hx
  try go_simp
  refine hK.out _ _ (fun _ => hS0) ?_
  clear hK K
  try simp only [Act.put, sqZ]
  refine UpTo.one 11 (by kernel_rfl) rfl (fun K hK => ?_)
  try simp only [sqG]
  go_simp
  go_at_call 106
  refine (HD3.out _ HBB.out).mono ?_
  rintro e wC ⟨aC, cC, rfl, hg, hA⟩
  have HBC := hdL (HBB.out.trans (hA.mono HBB.out.size))
  have HLC := hdL hA
  have HGC := hdL hg
  have hx := (HBC.out.block _ (loh HX1.out)).trans HX1.out
  clear hg hA hS0
  have hS0 : (fun W : World => W.cell? ⟨B, 5, none⟩ = some (.slice a1 n1 c1) ∧ W.cell? ⟨B, 6, none⟩ = some (.slice a2 n2 c2) ∧ W.cell? ⟨B, 7, none⟩ = some (.slice a3 n3 c3)) wC := ⟨cOh hx 5, cOh hx 6, cOh hx 7⟩
  clear hx
  try go_simp
  refine hK.out _ _ (fun _ => hS0) ?_
  clear hK K
  try simp only [Act.put, sqZ]
  have hx := (HBC.out.block _ (loh HX1.out)).trans HX1.out
  have m5 : wC.cell? ⟨B, 5, none⟩ = some (.slice a1 n1 c1) := cOh hx 5
  have m6 : wC.cell? ⟨B, 6, none⟩ = some (.slice a2 n2 c2) := cOh hx 6
  have m7 : wC.cell? ⟨B, 7, none⟩ = some (.slice a3 n3 c3) := cOh hx 7
  have mf := foh hx
  have HXC := hdL hx
  clear hx
  refine UpTo.one 14 (by kernel_rfl) rfl (fun K hK => ?_)
  try simp only [sqG]
  try go_simp
  refine hK.out _ _ (fun h => by cases h) ?_
  clear hK K
  try simp only [Act.put, sqZ]
  refine UpTo.one 15 (by kernel_rfl) rfl (fun K hK => ?_)
  try simp only [sqG]
  try go_simp
  refine hK.out _ _ (fun h => by cases h) ?_
  clear hK K
  try simp only [Act.put, sqZ]
  refine UpTo.one 16 (by kernel_rfl) rfl (fun K hK => ?_)
  try simp only [sqG]
  try go_simp
  refine hK.out _ _ (fun h => by cases h) ?_
  clear hK K
  try simp only [Act.put, sqZ]
  refine UpTo.one 17 (by kernel_rfl) rfl (fun K hK => ?_)
  try simp only [sqG]
  try go_simp
  refine hK.out _ _ (fun h => by cases h) ?_
  clear hK K
  try simp only [Act.put, sqZ]
  refine UpTo.one 18 (by kernel_rfl) rfl (fun K hK => ?_)
  try simp only [sqG]
  try go_simp
  refine hK.out _ _ (fun h => by cases h) ?_
  clear hK K
  try simp only [Act.put, sqZ]
  refine UpTo.done (by kernel_rfl) ?_
  have s5 := set_at 5 (.slice aA n1 cA) HXC.out (ds := #[.string s, .int .i64 x, .int .i64 y, .int .i64 z, .string t, .slice aA n1 cA, .slice a2 n2 c2, .slice a3 n3 c3]) (by simp)
  have s6 := set_at 6 (.slice aB n2 cB) s5 (ds := #[.string s, .int .i64 x, .int .i64 y, .int .i64 z, .string t, .slice aA n1 cA, .slice aB n2 cB, .slice a3 n3 c3]) (by simp)
  have s7 := set_at 7 (.slice aC n3 cC) s6 (ds := #[.string s, .int .i64 x, .int .i64 y, .int .i64 z, .string t, .slice aA n1 cA, .slice aB n2 cB, .slice aC n3 cC]) (by simp)
  have hoth : ∀ k, k ≠ B → (((wC.setCell ⟨B, 5, none⟩ (.slice aA n1 cA)).setCell ⟨B, 6, none⟩ (.slice aB n2 cB)).setCell ⟨B, 7, none⟩ (.slice aC n3 cC)).heap[k]? = wC.heap[k]? := fun k hk => (bHs _ _ _ _ (by simpa using hk)).trans ((bHs _ _ _ _ (by simpa using hk)).trans (bHs _ _ _ _ (by simpa using hk)))
  have hsz : (((wC.setCell ⟨B, 5, none⟩ (.slice aA n1 cA)).setCell ⟨B, 6, none⟩ (.slice aB n2 cB)).setCell ⟨B, 7, none⟩ (.slice aC n3 cC)).heap.size = wC.heap.size := by simp [World.setCell]
  obtain ⟨z1, z2, z3⟩ := HSZ.out
  have hbw : Below w.heap.size w (((wC.setCell ⟨B, 5, none⟩ (.slice aA n1 cA)).setCell ⟨B, 6, none⟩ (.slice aB n2 cB)).setCell ⟨B, 7, none⟩ (.slice aC n3 cC)) := below_set (below_set (below_set (HB.out.trans (HBC.out.mono HB.out.size)) (by omega) 5 _) (by omega) 6 _) (by omega) 7 _
  have zA := HBA.out.size
  have zB := HLB.out.size
  have zC := HLC.out.size
  have gA := HGA.out.keep (Keep.of_block (Z' := zNew w2.heap.size) (fun b _ h => h) (by rw [hsz]; omega) (fun b hb hz => (hoth b (by have : w2.heap.size ≤ b := hz; omega)).trans ((HLB.out.trans (HLC.out.mono HLB.out.size)).block b hb)))
  have gB := HGB.out.keepB (base' := w2.heap.size) zA (by rw [hsz]; omega) (fun b hz hb => (hoth b (by have : wA.heap.size ≤ b := hz; omega)).trans (HLC.out.block b hb))
  have gC := HGC.out.keepB (base' := w2.heap.size) (Nat.le_trans zA zB) (by rw [hsz]; omega) (fun b hz hb => (hoth b (by have : wB.heap.size ≤ b := hz; omega)))
  have hD3 := (hoth D (by omega)).trans ((HBC.out.block D (loh HX2.out)).trans HX2.out)
  have R1 := hdL gA; have R2 := hdL gB; have R3 := hdL gC; have R4 := hdL hbw; have R5 := hdL s7; have R6 := hdL hD3
  clear gA gB gC hbw s5 s6 s7 hD3 hoth hsz zA zB zC z1 z2 z3
  go_wp2_with fail
  go_meet
  exact ⟨aA, cA, aB, cB, aC, cC, rfl, rfl, rfl, R1, R2, R3, R4, R5, R6⟩
 obtain ⟨aA, cA, aB, cB, aC, cC, rfl, rfl, rfl, R1, R2, R3, R4, R5, R6⟩ := hcut
 obtain ⟨W6, hW6⟩ : ∃ W, W = wc := ⟨_, rfl⟩
 subst hW6
 have p0 : W6.cell? ⟨B, 0, none⟩ = some (.string s) := cOh R5.out 0
 have p1 : W6.cell? ⟨B, 1, none⟩ = some (.int .i64 x) := cOh R5.out 1
 have p2 : W6.cell? ⟨B, 2, none⟩ = some (.int .i64 y) := cOh R5.out 2
 have p3 : W6.cell? ⟨B, 3, none⟩ = some (.int .i64 z) := cOh R5.out 3
 have p4 : W6.cell? ⟨B, 4, none⟩ = some (.string t) := cOh R5.out 4
 have p5 : W6.cell? ⟨B, 5, none⟩ = some (.slice aA n1 cA) := cOh R5.out 5
 have p6 : W6.cell? ⟨B, 6, none⟩ = some (.slice aB n2 cB) := cOh R5.out 6
 have p7 : W6.cell? ⟨B, 7, none⟩ = some (.slice aC n3 cC) := cOh R5.out 7
 have q0 : W6.cell? ⟨D, 0, none⟩ = some (.string ⟨#[]⟩) := cOh R6.out 0
 have q1 : W6.cell? ⟨D, 1, none⟩ = some (.int .i64 0) := cOh R6.out 1
 have q2 : W6.cell? ⟨D, 2, none⟩ = some (.int .i64 0) := cOh R6.out 2
 have q3 : W6.cell? ⟨D, 3, none⟩ = some (.int .i64 0) := cOh R6.out 3
 have q4 : W6.cell? ⟨D, 4, none⟩ = some (.string ⟨#[]⟩) := cOh R6.out 4
 have q5 : W6.cell? ⟨D, 5, none⟩ = some (.slice none 0 0) := cOh R6.out 5
 have q6 : W6.cell? ⟨D, 6, none⟩ = some (.slice none 0 0) := cOh R6.out 6
 have q7 : W6.cell? ⟨D, 7, none⟩ = some (.slice none 0 0) := cOh R6.out 7
 have qf := foh R6.out
 go_wp2_with fail
 obtain ⟨W, hW, hWx, hWb, hWo, hWs⟩ := eight_set R6.out (.string s) (.int .i64 x) (.int .i64 y) (.int .i64 z) (.string t) (.slice aA n1 cA) (.slice aB n2 cB) (.slice aC n3 cC)
 rw [hW]
 clear hW p0 q0 p1 q1 p2 q2 p3 q3 p4 q4 p5 q5 p6 q6 p7 q7 qf
 have r0 : W.cell? ⟨D, 0, none⟩ = some (.string s) := cOh hWx 0
 have r1 : W.cell? ⟨D, 1, none⟩ = some (.int .i64 x) := cOh hWx 1
 have r2 : W.cell? ⟨D, 2, none⟩ = some (.int .i64 y) := cOh hWx 2
 have r3 : W.cell? ⟨D, 3, none⟩ = some (.int .i64 z) := cOh hWx 3
 have r4 : W.cell? ⟨D, 4, none⟩ = some (.string t) := cOh hWx 4
 have r5 : W.cell? ⟨D, 5, none⟩ = some (.slice aA n1 cA) := cOh hWx 5
 have r6 : W.cell? ⟨D, 6, none⟩ = some (.slice aB n2 cB) := cOh hWx 6
 have r7 : W.cell? ⟨D, 7, none⟩ = some (.slice aC n3 cC) := cOh hWx 7
 refine bodyPost_ret (v := .agg #[.string s, .int .i64 x, .int .i64 y, .int .i64 z, .string t, .slice aA n1 cA, .slice aB n2 cB, .slice aC n3 cC]) (by simp [results, Tryz.results63, go_sem, r0, r1, r2, r3, r4, r5, r6, r7]) rfl ?_
 obtain ⟨z1, z2, z3⟩ := HSZ.out
 obtain ⟨e1, e2, e3, e4⟩ := HTL.out
 obtain ⟨f1, f2, f3⟩ := HV.out
 have hk : Keep (zNew w2.heap.size) (zNew w.heap.size) W6 W := Keep.of_block (fun b _ h => Nat.le_trans (show w.heap.size ≤ w2.heap.size by omega) h) (by rw [hWs]; exact Nat.le_refl _) (fun b _ hz => hWo b (by have : w2.heap.size ≤ b := hz; omega))
 have q2 := R2.out.keepB (base' := w.heap.size) (w' := W) (show w.heap.size ≤ w2.heap.size by omega) (by rw [hWs]; exact Nat.le_refl _) (fun b hz _ => hWo b (by omega))
 have q3 := R3.out.keepB (base' := w.heap.size) (w' := W) (show w.heap.size ≤ w2.heap.size by omega) (by rw [hWs]; exact Nat.le_refl _) (fun b hz _ => hWo b (by omega))
 refine ⟨_, rfl, ⟨_, _, _, _, by rw [e3, ← f1, ← f2, ← f3], e4, ⟨e1.symm, e2, R1.out.keep hk⟩, q2.deps, q3.deps⟩, hWb _ _ (by omega) R4.out, ⟨_, rfl, q2⟩⟩
end Go.Proofs.YtaagkndhgicifaaGreat
