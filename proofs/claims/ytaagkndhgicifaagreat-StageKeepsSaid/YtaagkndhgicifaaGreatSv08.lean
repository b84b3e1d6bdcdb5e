/- DERIVED. Texts of this claim, put together: StkFits, SolA, SolB, SolC, SolD. -/
import Derived.Test.YtaagkndhgicifaaGreatSv07
namespace Go.Proofs.YtaagkndhgicifaaGreat
section
set_option maxHeartbeats 32000000
open Go.RowKit Go.Shelf
set_option linter.unusedVariables false
set_option linter.unusedSimpArgs false
set_option maxRecDepth 100000
variable {Y : Zone}
attribute [local go_sem] Oper.semAt_some
theorem fitsf_any (w : World) (B : Nat) (S : ByteArray) (a : Option Addr) (n c : Nat) :
  Calls Tryz.prog 125 #[.pointer (some ⟨B, 0, none⟩), .agg #[.string S, .slice a n c]] w fun e w' => e = .returned (.func (.func 154) #[] #[.pointer (some ⟨w.heap.size, 0, none⟩), .pointer (some ⟨w.heap.size + 1, 0, none⟩)]) ∧ w' = (w.alloc (.cells #[.pointer (some ⟨B, 0, none⟩)] 27)).alloc (.cells #[.string S, .slice a n c] 59) := by
 go_enter Tryz.func125, Tryz.ntmps125
 go_wp2
 go_ret
 exact ⟨rfl, rfl⟩
def encPk (p : Pk) : Array Value := #[.agg #[strV p.1, .int .i64 p.2.1, .int .i64 p.2.2.1, .int .i64 p.2.2.2]]
structure CellsX (X : Nat → Obj → Prop) (A B : World) : Prop where
 size : A.heap.size ≤ B.heap.size
 cells : ∀ (k : Nat) (o : Obj), A.heap[k]? = some o → o.isCells = true → ¬ X k o → B.heap[k]? = some o
theorem CellsX.refl (X : Nat → Obj → Prop) (A : World) : CellsX X A A := ⟨Nat.le_refl _, fun _ _ h _ _ => h⟩
theorem CellsX.rnd {X : Nat → Obj → Prop} {n : Nat} {A B C : World} (h : CellsX X A B) (g : RndX X n B C) : CellsX X A C :=
 ⟨Nat.le_trans h.size g.size, fun k o hk ho hx => g.cells k o (h.cells k o hk ho hx) ho hx⟩
theorem CellsX.below {X : Nat → Obj → Prop} {A B C : World} (h : CellsX X A B) (g : Below B.heap.size B C) : CellsX X A C := h.rnd (RndX.of_below (n := 0) g)
theorem cellsX_own {β : Type} {X : Nat → Obj → Prop} {A : World} {D : Nat} (hD : A.heap.size ≤ D) : OwnFrom D (fun (_ : β) W => CellsX X A W) :=
 fun _ P Q row hs hg hr => ⟨Nat.le_trans hs.size hg.size, fun k o hk ho hx => by
  have h1 := hs.cells k o hk ho hx
  refine (hg.block k (Array.getElem?_eq_some_iff.1 h1).1 (fun e => ?_)).trans h1
  have h2 := (hr k e.symm).1
  have h3 := (Array.getElem?_eq_some_iff.1 hk).1
  omega⟩
theorem CellsX.keepZ {X : Nat → Obj → Prop} {Z : Zone} {A B : World} (h : CellsX X A B) (hZ : ∀ b, Z b → ∀ o, ¬ X b o) : Keep Z Z A B :=
 ⟨fun _ _ hz => hz, h.size, fun a u hz hc => by
  obtain ⟨o, h1, h2⟩ := cells_of_cell hc
  exact (World.cell?_of_block ((h.cells a.block o h1 h2 (hZ _ hz o)).trans h1.symm)).trans hc⟩
def fitKeys (d : Dp) (ks : List Int) : List Pk := (ks.filter fun k => spanHas d.2 (verOf k)).map fun k => (d.1, verOf k)
def fitOut (d : Dp) (xs : List (KV Int)) : List Pk := fitKeys d (xs.map Prod.fst)
theorem fitKeys_app (d : Dp) (ks ls : List Int) : fitKeys d (ks ++ ls) = fitKeys d ks ++ fitKeys d ls := by simp [fitKeys]
theorem fitKeys_one (d : Dp) (k : Int) : fitKeys d [k] = if spanHas d.2 (verOf k) then [(d.1, verOf k)] else [] := by
 unfold fitKeys
 by_cases h : spanHas d.2 (verOf k) = true
 ·rw [if_pos h]; simp [h]
 ·rw [if_neg h]; simp [h]
theorem fitOut_snoc (d : Dp) (xs : List (KV Int)) (x : KV Int) : fitOut d (xs ++ [x]) = fitOut d xs ++ (if spanHas d.2 (verOf x.1) then [(d.1, verOf x.1)] else []) := by
 unfold fitOut
 rw [List.map_append, fitKeys_app]
 congr 1
 exact fitKeys_one d x.1
theorem fitOut_take (d : Dp) {pre xs : List (KV Int)} (h : pre <+: xs) : fitOut d pre <+: fitOut d xs := by
 obtain ⟨r, rfl⟩ := h
 refine ⟨fitOut d r, ?_⟩
 unfold fitOut
 rw [List.map_append, fitKeys_app]
theorem fitsL_keys (d : Dp) (L : Sh) : fitsL d L = fitKeys d (L.map Prod.fst).reverse := by
 unfold fitsL fitKeys
 rw [← List.map_reverse, List.filter_map, List.map_map]
 rfl
theorem rowsL_keys {Z : Zone} {w : World} {rows : List (KV Int)} {L : Sh} (h : RowsL Z w rows L) : rows.map Prod.fst = L.map Prod.fst := by
 apply List.ext_getElem?
 intro i
 rw [List.getElem?_map, List.getElem?_map]
 rcases Nat.lt_or_ge i rows.length with hi | hi
 ·have h1 := gEg hi
  have h2 := gEg (l := L) (i := i) (by rw [← h.1]; exact hi)
  rw [h1, h2]
  have := (h.2 i _ _ h1 h2).1
  simp [this]
 ·rw [List.getElem?_eq_none hi, List.getElem?_eq_none (by rw [← h.1]; exact hi)]
  rfl
theorem enters_overI : ∀ (args : Array Value) (w : World), (callFunc 153 args).run Tryz.prog w = .ok (.enter 153 args) w := enters_of Tryz.func153 (by kernel_rfl) rfl
def BackP (vv : Value) (w : World) (d : Dp) (st : St) : Prop := ∃ rows : List (KV Int), WidK 10 rows ∧ (∀ p ∈ rows, Shp p.2) ∧ rows.length ≤ 1000000 ∧ (∀ p ∈ rows, 0 ≤ p.1 ∧ p.1 < 1000000000) ∧ fitKeys d (rows.map Prod.fst) = st.fits d ∧
 ∀ W, Below w.heap.size w W → Calls Tryz.prog 155 #[vv] W (OverTo W rows)
theorem backP_some {w : World} {B N : Nat} {vN : Value} {es : List E} {st : St} {ns nr : Nat} (h : StkIn Y w B N vN es st ns nr) {e : E} (he : e ∈ es) (d : Dp) (hd : e.name = d.1) : BackP (.pointer (some ⟨e.S, 0, none⟩)) w d st := by
 obtain ⟨hs, hr⟩ := h.each e he
 have hT : (d.1, e.L) ∈ tabOf es := List.mem_map.2 ⟨e, he, by rw [hd]⟩
 have hm := h.many.2 e he
 have hf := h.few
 refine ⟨e.rows.reverse, hs.wid.sub (fun p hp => List.mem_reverse.1 hp), (fun p hp => by obtain ⟨en, _, hv⟩ := rows_mem hr (k := p.1) (l := p.2) (List.mem_reverse.1 hp); exact hv.shp), by rw [List.length_reverse]; omega, fun p hp => ?_, ?_, fun W hW => backI_any W e.S e.v e.rows (hs.below hW) (by omega)⟩
 ·have hk : p.1 ∈ e.L.map Prod.fst := by
   rw [← rowsL_keys hr]
   exact List.mem_map.2 ⟨p, List.mem_reverse.1 hp, rfl⟩
  obtain ⟨x, hx, hxp⟩ := List.mem_map.1 hk
  have := (h.tab.iff d.1 x.1 x.2).1 ⟨e.L, hT, hx⟩
  rw [hxp] at this
  exact ⟨this.1, this.2.1⟩
 ·rw [List.map_reverse, rowsL_keys hr, ← fitsL_keys, fitsL_eq h.tab h.ok d e.L hT]
theorem backP_none {w : World} {B N : Nat} {vN : Value} {es : List E} {st : St} {ns nr : Nat} (h : StkIn Y w B N vN es st ns nr) (d : Dp) (hn : ∀ l, (d.1, l) ∉ ptrs es) : BackP (.pointer none) w d st := by
 refine ⟨[], WidK.nil 10, (fun p hp => by cases hp), by simp, fun p hp => (by cases hp), ?_, fun W _ => backI_nil W⟩
 rw [fits_none h.tab h.ok d (ptrs_not hn)]
 rfl
theorem backP_of {w w3 : World} {B N : Nat} {vN : Value} {es : List E} {st : St} {ns nr : Nat} (h : StkIn Y w B N vN es st ns nr) (hb : Below w.heap.size w w3) {d : Dp} {vv : Value} {b : Bool} (g1 : b = true → (d.1, [vv]) ∈ ptrs es) (g2 : b = false → vv = .pointer none ∧ ∀ l, (d.1, l) ∉ ptrs es) : BackP vv w3 d st := by
 have h3 := h.keep hb.size hb.block
 cases b
 ·obtain ⟨rfl, hno⟩ := g2 rfl
  exact backP_none h3 d hno
 ·obtain ⟨e, he, hen, rfl⟩ := ptrs_mem (g1 rfl)
  exact backP_some h3 he d hen
theorem fits_stops (n : Nat) (hn : 4 ≤ n) (w : World) (B : Nat) (F : List Nat) (st : St) (h : StkAt w B F st) (d : Dp) (Z : Zone) (v1 : Value) (hd : GapsAt Z w v1 d.2) (C1 C2 : Nat) (hC1 : w.heap[C1]? = some (.cells #[.pointer (some ⟨B, 0, none⟩)] 27 (0, 0))) (hC2 : w.heap[C2]? = some (.cells #[strV d.1, v1] 59 (0, 0)))
  (X : Nat → Obj → Prop) (hZ : ∀ b, Z b → ∀ o, ¬ X b o) (hXP : ∀ b c f, ¬ X b (.cells c 185 f)) (hXD : ∀ b c f, ¬ X b (.cells c 59 f)) (hXY : ∀ b c f, ¬ X b (.cells c 46 f)) :
  StopsO n Tryz.prog 154 #[.pointer (some ⟨C1, 0, none⟩), .pointer (some ⟨C2, 0, none⟩)] encPk X (fun ys => ys = st.fits d) (fun pre => pre <+: st.fits d) w := by
 intro l J Jx W hW hJ hJx hY h0
 obtain ⟨N, vN, es, hF, hi⟩ := h
 obtain ⟨S, -, hS, -, -⟩ := strV_is d.1
 have hd0 := hd.below hW
 obtain ⟨a, c, hv1, -, -⟩ := hd
 subst hv1
 rw [hS] at hC2
 obtain ⟨W1, hW1, hb1, hx1, y1, y2⟩ := one_block W (.func (.yield l) #[] #[]) 46
 obtain ⟨By, hBy⟩ : ∃ b, W.heap.size = b := ⟨_, rfl⟩
 rw [hBy] at hx1
 have hi1 := (hi.keep hW.size hW.block).keep hb1.size hb1.block
 have hc1 := (hb1.block _ (Nat.lt_of_lt_of_le (loh hC1) hW.size)).trans ((hW.block _ (loh hC1)).trans hC1)
 have hc2 := (hb1.block _ (Nat.lt_of_lt_of_le (loh hC2) hW.size)).trans ((hW.block _ (loh hC2)).trans hC2)
 have hd1 := hd0.below hb1
 have hJ1 : J [] W1 := own_below hJ h0 hb1
 have hG := fun V (hV : Below W1.heap.size W1 V) => shgetS_any V N vN (ptrs es) d.1 (hi1.names.below hV) (by unfold ptrs; rw [List.length_map]; have := hi1.many.1; have := hi1.few; omega)
 rw [hS] at hG
 have k0 := cOh hc1 0
 have k1 := cOh hi1.cells 0
 have k2 := cOh hc2 0
 have HG := hdL hG; have HI := hdL hi1; have HC2 := hdL hc2; have HD := hdL hd1; have HX1 := hdL hx1; have HJ1 := hdL hJ1
 have HJ := hdL hJ; have HJX := hdL hJx; have HY := hdL hY; have HXP := hdL hXP; have HXD := hdL hXD; have HXY := hdL hXY; have HZ := hdL hZ; have HS := hdL hS
 have HSZ := hdL (show w.heap.size ≤ By ∧ W.heap.size = By ∧ W1.heap.size = By + 1 from by have := hW.size; omega)
 clear h0 hF hi hd0 hC1 hC2 hi1 hc1 hc2 hd1 hJ1 hG hJ hJx hY hXP hXD hXY hZ hS hb1 hx1 y1 y2 hW
 refine callsIn_wide.2 (calls_of_wp_marks Tryz.func154 rfl ?_)
 simp only [Tryz.ntmps154, List.size_toArray, List.length_cons, List.length_nil, Nat.reduceAdd, Nat.reduceSub, Array.replicate_succ, Array.replicate_zero, List.push_toArray, List.append_toArray, List.nil_append, List.cons_append]
 go_wp2_with fail
 go_region_held3 (fun W : World => W.cell? ⟨C1, 0, none⟩ = some (.pointer (some ⟨B, 0, none⟩)) ∧ W.cell? ⟨B, 0, none⟩ = some (.pointer (some ⟨N, 0, none⟩)) ∧ W.cell? ⟨C2, 0, none⟩ = some (.string S)) (first | exact ⟨k0, k1, k2⟩ | exact ⟨j0, j1, j2⟩ | go_keep) (first | (go_at_call 96; refine (HG.out _ ((Below.refl _ _).drew)).mono ?_; rintro e w3 ⟨vv, b, rfl, g1, g2, g3⟩; have hb3 := ((Below.refl W1.heap.size W1).drew).trans g3; have hbk := backP_of HI.out hb3 g1 g2; have j0 := (bkp hb3 _ _ k0); have j1 := (bkp hb3 _ _ k1); have j2 := (bkp hb3 _ _ k2); have H3 := hdL hb3; have HBK := hdL hbk; clear g1 g2 g3 hb3 hbk))
 obtain ⟨rows, r1, rsh, r2, r3, r4, r5⟩ := HBK.out
 have R1 := hdL r1; have RSH := hdL rsh; have R4 := hdL r4; have R5 := hdL r5; have R3 := hdL r3
 clear r1 rsh r3 r4 r5 k0 k1 k2 j0 j1 j2 HBK
 go_wp2_with fail
 refine (R5.out _ (Below.refl _ _)).mono ?_
 rintro e w4 ⟨C, a', c', rfl, o1, o2, o3, o5⟩
 have h14 := H3.out.trans (o5.mono H3.out.size)
 have hz14 := h14.size
 have hz34 := H3.out.size
 have hJ4 : J [] w4 := own_below HJ.out HJ1.out h14
 have hx4 := (h14.block _ (loh HX1.out)).trans HX1.out
 have hc4 := (h14.block _ (loh HC2.out)).trans HC2.out
 have hsz := HSZ.out
 have hst := overI_stops 2 C c' a' rows w4 X (by omega) r2 R1.out RSH.out o1 _ o2 HXP.out
 have HST := hdL hst; have HD4 := hdL (HD.out.below h14); have HX4 := hdL hx4; have HC4 := hdL hc4; have HJ4 := hdL hJ4; have HW4 := hdL (show W.heap.size ≤ w4.heap.size ∧ By < w4.heap.size from by omega)
 clear o1 o2 o3 o5 h14 hz14 hz34 hJ4 hx4 hc4 hst hsz
 go_wp2_with fail
 refine (wpIn_wide (n := 3)).1 ?_
 refine range_wide (n := 3) (by omega) (gf := 153) (lb := #[.pointer (some ⟨C, 0, none⟩)]) rfl enters_overI HST.out (Below.refl _ _) (fun _ => rfl)
  (fun pre V => J (fitOut d pre) V ∧ CellsX X w4 V) (fun c pre V => c = .ret ∧ Jx (fitOut d pre) V)
  (fun s P Q row hs hg hr => ⟨HJ.out _ P Q row hs.1 hg (fun k e => ⟨Nat.le_trans HW4.out.1 (hr k e).1, (hr k e).2⟩), cellsX_own (Nat.le_refl _) s P Q row hs.2 hg hr⟩)
  (fun c s P Q row hs hg hr => ⟨hs.1, HJX.out _ P Q row hs.2 hg (fun k e => ⟨Nat.le_trans HW4.out.1 (hr k e).1, (hr k e).2⟩)⟩)
  ⟨HJ4.out, CellsX.refl _ _⟩ ?round ?done ?stop
 case round =>
  rintro l2 pre x Wr ⟨-, -⟩ hpre
  unfold encP
  gi_wp2
  refine ⟨Below.refl _ _, ?_⟩
  rintro W2 ⟨hj, hcx⟩ -
  have hx : x ∈ rows := by
   obtain ⟨r, hr⟩ := hpre
   rw [← hr]; simp
  have hkb := R3.out x hx
  obtain ⟨k, vals⟩ := x
  dsimp only at hkb
  have hof := vof_any W2 k hkb.1 hkb.2
  obtain ⟨u, hu⟩ : ∃ u, u = verOf k := ⟨_, rfl⟩
  have hfit : fitOut d (pre ++ [(k, vals)]) = fitOut d pre ++ (if spanHas d.2 u then [(d.1, u)] else []) := by rw [fitOut_snoc, hu]
  rw [← hu] at hof
  obtain ⟨x, y, z⟩ := u
  dsimp only at hof
  have h1n : 1 ≤ 3 - 1 - 1 := by decide
  have HOF := hdL hof; have HFIT := hdL hfit
  have HPRE := hdL hpre; have HJr := hdL hj; have HCX := hdL hcx
  clear hpre hj hcx hx hkb hu hof hfit
  gi_wp2
  refine ⟨trivial, ?_⟩
  refine (CallsIn.inRound l2 ((callsIn_wide (n := 0)).2 HOF.out)).mono ?_
  rintro e W3 ⟨rfl, h3⟩
  obtain ⟨W5, hW5, hb5, hx5, y1, y2⟩ := aBk W3 #[.int .i64 x, .int .i64 y, .int .i64 z] 39
  have h35 := h3.trans (hb5.mono h3.size)
  have hcx5 := HCX.out.below h35
  have hJ5 : J (fitOut d pre) W5 := own_below HJ.out HJr.out h35
  have hc5 := hcx5.cells C2 _ HC4.out rfl (HXD.out _ _ _)
  have hy5 := hcx5.cells By _ HX4.out rfl (HXY.out _ _ _)
  have hd5 := HD4.out.keep (hcx5.keepZ HZ.out)
  have hs := shas_any W5 Z _ d.2 (x, y, z) hd5
  obtain ⟨c0, c1⟩ := cells2 hc5
  have b0 := cOh hy5 0
  obtain ⟨v0, v1, v2⟩ := cells3 hx5
  have HX5 := hdL hx5; have HCX5 := hdL hcx5; have HJ5 := hdL hJ5; have H35 := hdL h35; have HC5 := hdL hc5; have HY5 := hdL hy5
  have HSZ5 := hdL (show W2.heap.size ≤ W5.heap.size from h35.size)
  clear h3 hb5 hx5 y1 y2 h35 hcx5 hJ5 hc5 hy5 hd5
  cases hb : spanHas d.2 (x, y, z)
  ·rw [hb] at hs
   have HS5 := hdL hs; have HFN := hdL (show fitOut d (pre ++ [(k, vals)]) = fitOut d pre by rw [HFIT.out, hb]; simp)
   clear hs hb
   gi_wp2
   refine ⟨trivial, ?_⟩
   refine (CallsIn.inRound l2 ((callsIn_wide (n := 0)).2 HS5.out)).mono ?_
   rintro e W6 ⟨rfl, h6⟩
   have HR6 := hdL (RndX.of_below (X := X) (n := w4.heap.size) (H35.out.trans (h6.mono HSZ5.out)))
   have HJ6 := hdL (own_below HJ.out HJ5.out h6); have HCX6 := hdL (HCX5.out.below h6)
   clear h6
   gi_wp2
   refine ⟨fun _ h => (by cases h), ?_⟩
   gi_wp2
   exact ⟨HR6.out, by rw [HFN.out]; exact HJ6.out, HCX6.out⟩
  ·rw [hb] at hs
   have hpr : fitOut d pre ++ [(d.1, (x, y, z))] <+: st.fits d := by
    have h1 := fitOut_take d HPRE.out
    rw [HFIT.out, hb] at h1
    rw [← R4.out]
    exact h1
   have HS5 := hdL hs; have HFN := hdL (show fitOut d (pre ++ [(k, vals)]) = fitOut d pre ++ [(d.1, (x, y, z))] by rw [HFIT.out, hb]; simp); have HPR := hdL hpr
   clear hs hb hpr
   gi_wp2
   refine ⟨trivial, ?_⟩
   refine (CallsIn.inRound l2 ((callsIn_wide (n := 0)).2 HS5.out)).mono ?_
   rintro e W6 ⟨rfl, h6⟩
   have HR6 := hdL (RndX.of_below (X := X) (n := w4.heap.size) (H35.out.trans (h6.mono HSZ5.out)))
   have hJ6 := own_below HJ.out HJ5.out h6; have HCX6 := hdL (HCX5.out.below h6)
   have q0 := cOh ((h6.block _ (loh HC5.out)).trans HC5.out) 0
   have qb := cOh ((h6.block _ (loh HY5.out)).trans HY5.out) 0
   have hx6 := (h6.block _ (loh HX5.out)).trans HX5.out
   obtain ⟨q1, q2, q3⟩ := cells3 hx6
   obtain ⟨fn, tmps, assign, body, hy, hR⟩ := yield_anyDepth rfl 0 (HY.out _ _ _ hJ6 HPR.out)
   unfold encPk at hy
   rw [HS.out] at hy
   dsimp only at hy
   have HRND := hdL (show RoundIn (Fence.wide.inRound l2) 0 _ l fn tmps assign body _ _ from hR)
   clear h6 hJ6 hx6 hR c0 c1 b0 v0 v1 v2
   gi_wp2
   refine HRND.out.mono ?_
   rintro e W7 (⟨rfl, hJ7, hk7⟩ | ⟨rfl, hJ7, hk7⟩)
   ·have HR7 := hdL (HR6.out.trans (hk7.mono HW4.out.1)); have HCX7 := hdL (HCX6.out.rnd hk7); have HJ7 := hdL hJ7
    clear hJ7 hk7
    gi_wp2
    exact ⟨HR7.out, by rw [HFN.out]; exact HJ7.out, HCX7.out⟩
   ·have HR7 := hdL (HR6.out.trans (hk7.mono HW4.out.1)); have HJ7 := hdL hJ7
    clear hJ7 hk7
    gi_wp2
    exact ⟨HR7.out, rfl, by rw [HFN.out]; exact HJ7.out⟩
 case done =>
  rintro D ys V hD rfl ⟨hj, -⟩ hK
  have HJV := hdL (HJ.out.putObj (.deferred none) hj (Nat.le_trans HW4.out.1 hD) hK rfl); have HK := hdL hK
  clear hj hK
  refine marks_end1 (v := .tuple #[]) rfl HK.out (results_none rfl _ _ _) ⟨⟨_, rfl⟩, .inl ⟨_, ?_, HJV.out⟩⟩
  exact R4.out
 case stop =>
  rintro D c9 pre V hD hp ⟨rfl, hj⟩ hK
  have HJV := hdL (HJX.out.putObj (.deferred none) hj (Nat.le_trans HW4.out.1 hD) hK rfl); have HK := hdL hK
  have HP := hdL (show fitOut d pre <+: st.fits d by rw [← R4.out]; exact fitOut_take d hp)
  clear hj hK hp
  refine wpIn_wide.2 ?_
  go_wp2_with fail
  exact marks_ret1 (v := .tuple #[]) rfl HK.out (results_none rfl _ _ _) ⟨⟨_, rfl⟩, .inr ⟨_, HP.out, HJV.out⟩⟩
end
set_option maxHeartbeats 32000000
open Go.RowKit Go.Shelf
set_option linter.unusedVariables false
set_option linter.unusedSimpArgs false
set_option maxRecDepth 100000
def pkL (p : Pk) : List Value := [strV p.1, .int .i64 p.2.1, .int .i64 p.2.2.1, .int .i64 p.2.2.2]
theorem pkL_len (p : Pk) : (pkL p).length = 4 := rfl
theorem pkL_one (p : Pk) : ∀ v ∈ pkL p, v.oneCell' = true := by
 intro v hv
 simp only [pkL, List.mem_cons, List.not_mem_nil, or_false] at hv
 rcases hv with rfl | rfl | rfl | rfl <;> rfl
def PkgsAt (Z : Zone) (w : World) (v : Value) (ps : List Pk) : Prop := ∃ a c, v = .slice a ps.length c ∧ Bnd ps.length c a ∧
 (ps ≠ [] → ∃ b o, a = some ⟨b, o, none⟩ ∧ Z b ∧ b < w.heap.size ∧ ∀ i p, ps[i]? = some p → ∀ j u, (pkL p)[j]? = some u → w.cell? ⟨b, o + i * 4 + j, none⟩ = some u)
theorem PkgsAt.keep {Z Z' : Zone} {w w' : World} (hk : Keep Z Z' w w') {v : Value} {ps : List Pk} (h : PkgsAt Z w v ps) : PkgsAt Z' w' v ps := by
 obtain ⟨a, c, h1, h2, h3⟩ := h
 refine ⟨a, c, h1, h2, fun hne => ?_⟩
 obtain ⟨b, o, e, hz, hl, hc⟩ := h3 hne
 exact ⟨b, o, e, hk.zone b hl hz, Nat.lt_of_lt_of_le hl hk.size, fun i p hi j u hj => hk.cell _ _ hz (hc i p hi j u hj)⟩
theorem PkgsAt.below {Z : Zone} {w w' : World} {v : Value} {ps : List Pk} (h : PkgsAt Z w v ps) (hb : Below w.heap.size w w') : PkgsAt Z w' v ps := h.keep (Keep.below hb)
theorem PkgsAt.of_owns {w : World} {base n : Nat} {e : TypeId} {v : Value} {ps : List Pk} (h : w.ownsRow base e 4 v n (ps.flatMap pkL)) (hn : n = ps.length) (hm : ps.length ≤ 8796093022208) : PkgsAt (fun b => v.ownBlock = some b) w v ps := by
 subst hn
 rcases h.2 with ⟨rfl, h0⟩ | ⟨g, cap, cur, rfl, hbase, hb, h1, h2, h3, h4⟩
 ·refine ⟨none, 0, by rw [h0], ⟨by omega, by omega, by unfold maxLen; omega, fun _ => ⟨h0, rfl⟩⟩, fun hne => absurd (eN0 h0) hne⟩
 ·refine ⟨some ⟨g, 0, none⟩, cap, rfl, ⟨h1, hm, h2, fun e => by cases e⟩, fun hne => ⟨g, 0, rfl, rfl, loh hb, fun i p hi j u hj => ?_⟩⟩
  rw [cOh hb]
  have hj4 : j < 4 := by have := (gEs.1 hj).1; rwa [pkL_len] at this
  have hk := flat_at pkL_len ps i p hi j hj4
  rw [← h4, hj] at hk
  rw [Nat.zero_add]
  rw [List.getElem?_take] at hk
  split at hk
  ·rw [← Array.getElem?_toList]; exact hk
  ·cases hk
theorem eqPk : EqlAt Tryz.prog 41 (fun p => .agg (pkL p).toArray) (fun p q => decide (p = q)) := by
 refine ⟨fun p q w => ?_, GuardAt.agg _ (by kernel_rfl)⟩
 have u3 := Tryz.underlying3
 have a3 := Tryz.isAgg3
 have z3 := Tryz.sizeOf3
 have u9 := Tryz.underlying9
 have a9 := Tryz.isAgg9
 have z9 := Tryz.sizeOf9
 have u24 := Tryz.underlying39
 have a24 := Tryz.isAgg39
 have z24 := Tryz.sizeOf39
 have hS : Tryz.prog.underlying 41 = some (.struct (Tryz.prog.fieldsOf 41)) := by kernel_rfl
 have hp : Tryz.prog.stoodInHeld 41 = false := by kernel_rfl
 have hp2 : Tryz.prog.stoodInHeld 39 = false := by kernel_rfl
 obtain ⟨n, x, y, z⟩ := p
 obtain ⟨m, x', y', z'⟩ := q
 simp only [pkL]
 rw [run_eql_struct, show (10000 : Nat) = 9999 + 1 from rfl, run_equalIn_agg w 9999 41 _ _ hS hp]
 simp only [Program.fieldsOf, Tryz.underlying41]
 unfold strV
 go_simp
 obtain ⟨i0, hi, -, -, -⟩ := info_parts (show (Tryz.prog.info? 3).map (fun i => (i.zero, i.size, i.bytes)) = some (some (.int .i64 0), 1, 8) by kernel_rfl)
 rw [show (9999 : Nat) = 9998 + 1 from rfl, run_equalIn_array w 9998 _ _ u24 hi]
 have hc : Tryz.prog.cellsOf 3 = 1 := by kernel_rfl
 simp only [List.range, List.range.loop, Op.eqItems, hc]
 go_simp
 by_cases h0 : n = m <;> by_cases h1 : x = x' <;> by_cases h2 : y = y' <;> by_cases h3 : z = z' <;> simp [h0, h1, h2, h3]
theorem eqVer (x y z x' y' z' : Int) (w : World) : (Op.equalIn 9999 39 (.agg #[.int .i64 x, .int .i64 y, .int .i64 z]) (.agg #[.int .i64 x', .int .i64 y', .int .i64 z'])).run Tryz.prog w = .ok (decide (x = x' ∧ y = y' ∧ z = z')) w := by
 have u3 := Tryz.underlying3
 have a3 := Tryz.isAgg3
 have z3 := Tryz.sizeOf3
 have u24 := Tryz.underlying39
 obtain ⟨i0, hi, -, -, -⟩ := info_parts (show (Tryz.prog.info? 3).map (fun i => (i.zero, i.size, i.bytes)) = some (some (.int .i64 0), 1, 8) by kernel_rfl)
 rw [show (9999 : Nat) = 9998 + 1 from rfl, run_equalIn_array w 9998 _ _ u24 hi]
 have hc : Tryz.prog.cellsOf 3 = 1 := by kernel_rfl
 simp only [List.range, List.range.loop, Op.eqItems, hc]
 go_simp
 by_cases h1 : x = x' <;> by_cases h2 : y = y' <;> by_cases h3 : z = z' <;> simp [h1, h2, h3]
theorem conNil (w : World) (a : Option Addr) (c : Nat) (S : ByteArray) (x y z : Int) : Calls Tryz.prog 126 #[.slice a 0 c, .agg #[.string S, .int .i64 x, .int .i64 y, .int .i64 z]] w (fun e w' => e = .returned (.bool false) ∧ Below w.heap.size w w') := by
 obtain ⟨w1, hw1, hb1, hx1, _, _⟩ := aBk w #[.string S, .int .i64 x, .int .i64 y, .int .i64 z] 41
 obtain ⟨g0, g1, g2, g3⟩ := cells4 hx1
 have HB := hdL hb1
 have hi : Calls Tryz.prog 157 #[.slice a 0 c, .agg #[.string S, .int .i64 x, .int .i64 y, .int .i64 z]] w1 (fun e w' => e = .returned (.int .i64 (-1)) ∧ Below w1.heap.size w1 w') := by
  obtain ⟨w2, hw2, hb2, hx2, _, _⟩ := aBk w1 #[.string S, .int .i64 x, .int .i64 y, .int .i64 z] 41
  have HB2 := hdL hb2
  clear g0 g1 g2 g3 hx1 hb1 hw1 hx2 hb2
  go_enter Tryz.func157, Tryz.ntmps157
  go_wp2
  go_loopw [8] (fun x wr => x = .int .i64 0 ∧ wr = w2) (fun x _ => 0)
  case atStart => exact ⟨rfl, rfl⟩
  case round =>
   obtain ⟨rfl, rfl⟩ := hrel
   go_wp2
   go_ret
   exact ⟨rfl, HB2.out⟩
 have HI := hdL hi
 clear hi hx1 hb1
 go_enter Tryz.func126, Tryz.ntmps126
 go_wp2_with fail
 refine HI.out.mono ?_
 rintro e w3 ⟨rfl, h3⟩
 have H3 := hdL (HB.out.trans (h3.mono HB.out.size))
 clear h3
 go_wp2_with fail
 go_ret
 exact ⟨rfl, H3.out⟩
theorem con_any (w : World) (Z : Zone) (v : Value) (ps : List Pk) (h : PkgsAt Z w v ps) (p : Pk) :
  Calls Tryz.prog 126 #[v, .agg #[strV p.1, .int .i64 p.2.1, .int .i64 p.2.2.1, .int .i64 p.2.2.2]] w (fun e w' => e = .returned (.bool (inP ps p)) ∧ Below w.heap.size w w') := by
 obtain ⟨a, c, rfl, hb, hc⟩ := h
 cases hps : ps with
 | nil =>
  obtain ⟨S, -, hS, -, -⟩ := strV_is p.1
  rw [hS]
  exact conNil w a c S p.2.1 p.2.2.1 p.2.2.2
 | cons q qs =>
  rw [← hps]
  obtain ⟨b, o, rfl, hz, hl, hcs⟩ := hc (by rw [hps]; exact List.cons_ne_nil _ _)
  have hm := hb.max
  have hcon := AnyQ.slices_Contains Tryz.laysHasPkg 4 Tryz.isAgg41 Tryz.sizeOf41 pkL pkL_len _ eqPk b o ps.length c ps p w (Nat.le_refl _) (by omega) (fun j hj i v hv => by
   have hj' := gEg hj
   rw [getElem!_pos ps j hj] at hv
   exact hcs j _ hj' i v hv)
  change Calls Tryz.prog 126 _ _ _ at hcon
  refine hcon.mono ?_
  rintro e w' ⟨rfl, h2⟩
  refine ⟨?_, h2⟩
  rw [List.take_length]
  unfold inP
  congr 2
  apply List.any_congr rfl
  intro x
  exact decide_eq_decide.2 eq_comm
def pk4 (o : Option Pk) : List Value := match o with
 | some p => pkL p
 | none => [.string ⟨#[]⟩, .int .i64 0, .int .i64 0, .int .i64 0]
theorem hasF_any (w : World) (p : Pk) (B : Nat) (q : List UInt8) (hB : w.cell? ⟨B, 0, none⟩ = some (strV q)) :
  Calls Tryz.prog 159 #[.agg #[strV p.1, .int .i64 p.2.1, .int .i64 p.2.2.1, .int .i64 p.2.2.2], .pointer (some ⟨B, 0, none⟩)] w (fun e w' => e = .returned (.bool (decide (p.1 = q))) ∧ Below w.heap.size w w') := by
 obtain ⟨n, x, y, z⟩ := p
 dsimp only
 obtain ⟨R, hR⟩ : ∃ R, R = decide (n = q) := ⟨_, rfl⟩
 rw [← hR]
 unfold strV at hB ⊢
 obtain ⟨w1, hw1, hb1, hx1, _, _⟩ := aBk w #[.string ⟨n.toArray⟩, .int .i64 x, .int .i64 y, .int .i64 z] 41
 have g0 := cOh hx1 0
 have hB1 := bkp hb1 _ _ hB
 have HB := hdL hb1; have HR := hdL hR
 clear hx1 hb1 hB hR
 go_enter Tryz.func159, Tryz.ntmps159
 go_wp2
 go_ret
 have hbq : (n == q) = decide (n = q) := by rw [Bool.eq_iff_iff]; simp
 exact ⟨by rw [HR.out, ← hbq]; rfl, HB.out⟩
theorem hidx_any (w : World) (Z : Zone) (v : Value) (ps : List Pk) (h : PkgsAt Z w v ps) (B : Nat) (q : List UInt8) (hB : w.cell? ⟨B, 0, none⟩ = some (strV q)) :
  Calls Tryz.prog 158 #[v, .func (.func 159) #[] #[.pointer (some ⟨B, 0, none⟩)]] w (fun e w' => (∃ i : Int, e = .returned (.int .i64 i) ∧ ((i = -1 ∧ ps.find? (fun p => decide (p.1 = q)) = none) ∨ ∃ k p, i = ((k : Nat) : Int) ∧ ps[k]? = some p ∧ ps.find? (fun p => decide (p.1 = q)) = some p)) ∧ Below w.heap.size w w') := by
 obtain ⟨a, c, rfl, hb, hc⟩ := h
 obtain ⟨n, hnn⟩ : ∃ n, n = ps.length := ⟨_, rfl⟩
 rw [← hnn] at hb ⊢
 have hnl : n ≤ 8796093022208 := hb.max
 have HN := hdL hnn; have HC := hdL hc; have HQ := hdL hB
 clear hnn hc hb hB
 go_enter Tryz.func158, Tryz.ntmps158
 go_wp2_with fail
 go_loopw [8] (fun x wr => ∃ k : Nat, x = .int .i64 k ∧ k ≤ n ∧ Hid (ps.find? (fun p => decide (p.1 = q)) = (ps.drop k).find? (fun p => decide (p.1 = q))) ∧ Hid (Below w.heap.size w wr)) (fun x _ => n - (intOf x).toNat)
 case atStart => exact ⟨0, rfl, Nat.zero_le _, rfl, Below.refl _ _⟩
 case round =>
  obtain ⟨k, rfl, hkn, hno, hbw⟩ := hrel
  by_cases hlt : k < n
  ·obtain ⟨p, hp⟩ : ∃ p, ps[k]? = some p := ⟨_, gEg (by rw [← HN.out]; exact hlt)⟩
   obtain ⟨b, o, rfl, _, _, hcs⟩ := HC.out (fun e => by rw [e] at hp; cases hp)
   have c0 : wr.cell? ⟨b, o + k * 4, none⟩ = some (strV p.1) := bkp hbw.out _ _ (hcs k p hp 0 _ rfl)
   have c1 : wr.cell? ⟨b, o + k * 4 + 1, none⟩ = some (.int .i64 p.2.1) := bkp hbw.out _ _ (hcs k p hp 1 _ rfl)
   have c2 : wr.cell? ⟨b, o + k * 4 + 2, none⟩ = some (.int .i64 p.2.2.1) := bkp hbw.out _ _ (hcs k p hp 2 _ rfl)
   have c3 : wr.cell? ⟨b, o + k * 4 + 3, none⟩ = some (.int .i64 p.2.2.2) := bkp hbw.out _ _ (hcs k p hp 3 _ rfl)
   have hcl := hasF_any wr p B q (bkp hbw.out _ _ HQ.out)
   have hd : ps.drop k = p :: ps.drop (k + 1) := by
    rw [List.drop_eq_getElem_cons (gEs.1 hp).1, (gEs.1 hp).2]
   have hno' := hno.out
   rw [hd, List.find?_cons] at hno'
   obtain ⟨nm, x, y, z⟩ := p
   dsimp only at c0 c1 c2 c3 hcl hno'
   obtain ⟨S, -, hS, -, -⟩ := strV_is nm
   rw [hS] at c0 hcl
   have HP := hdL hp
   clear hcs hp hd hS
   cases hq : decide (nm = q)
   ·rw [hq] at hcl hno'
    have HCL := hdL hcl; have HNO := hdL hno'
    clear hcl hq hno'
    go_wp2_with fail
    refine HCL.out.mono ?_
    rintro e w3 ⟨rfl, h3⟩
    have H3 := hdL (hbw.out.trans (h3.mono hbw.out.size))
    clear h3
    go_wp2_with fail
    go_roundw
    case rel => exact ⟨k + 1, by go_num, hlt, HNO, H3⟩
    case measure => simp [intOf]; omega
   ·rw [hq] at hcl hno'
    have HCL := hdL hcl; have HNO := hdL hno'
    clear hcl hq hno'
    go_wp2_with fail
    refine HCL.out.mono ?_
    rintro e w3 ⟨rfl, h3⟩
    have H3 := hdL (hbw.out.trans (h3.mono hbw.out.size))
    clear h3
    go_wp2_with fail
    go_ret
    exact ⟨⟨k, rfl, .inr ⟨k, _, rfl, HP.out, HNO.out⟩⟩, H3.out⟩
  ·obtain rfl : k = n := by omega
   have HY := hdL (show ps.find? (fun p => decide (p.1 = q)) = none by
    rw [hno.out, List.drop_of_length_le (by rw [← HN.out]; omega)]; rfl)
   go_wp2_with fail
   go_ret
   exact ⟨⟨-1, rfl, .inl ⟨rfl, HY.out⟩⟩, hbw.out⟩
section
attribute [local go_sem] Oper.semAt_some
def srC (B : Nat) (vp vW vC : Value) (left made : Int) : Array Value := #[.pointer (some ⟨B, 0, none⟩), vp, vW, vC, .int .i64 left, .int .i64 made]
theorem four_set {w : World} {B : Nat} {t : TypeId} {y0 y1 y2 y3 : Value} (h : w.heap[B]? = some (.cells #[y0, y1, y2, y3] t (0, 0))) (x0 x1 x2 x3 : Value) :
  ∃ W, ((((w.setCell ⟨B, 0, none⟩ x0).setCell ⟨B, 1, none⟩ x1).setCell ⟨B, 2, none⟩ x2).setCell ⟨B, 3, none⟩ x3) = W ∧ W.heap[B]? = some (.cells #[x0, x1, x2, x3] t (0, 0)) ∧ (∀ n v, n ≤ B → Below n v w → Below n v W) ∧ (∀ k, k ≠ B → W.heap[k]? = w.heap[k]?) ∧ W.heap.size = w.heap.size := by
 have s0 := set_at 0 x0 h (ds := #[x0, y1, y2, y3]) (by simp)
 have s1 := set_at 1 x1 s0 (ds := #[x0, x1, y2, y3]) (by simp)
 have s2 := set_at 2 x2 s1 (ds := #[x0, x1, x2, y3]) (by simp)
 have s3 := set_at 3 x3 s2 (ds := #[x0, x1, x2, x3]) (by simp)
 refine ⟨_, rfl, s3, fun n v hB hb => below_set (below_set (below_set (below_set hb hB 0 x0) hB 1 x1) hB 2 x2) hB 3 x3, fun k hk => ?_, by simp⟩
 rw [bHs _ _ _ _ hk, bHs _ _ _ _ hk, bHs _ _ _ _ hk, bHs _ _ _ _ hk]
theorem has_any (w : World) (Hb B : Nat) (vp vW vC : Value) (left made : Int) (Z : Zone) (ch : List Pk) (hH : w.heap[Hb]? = some (.cells (srC B vp vW vC left made) 146 (0, 0))) (hc : PkgsAt Z w vC ch) (q : List UInt8) :
  Calls Tryz.prog 127 #[.pointer (some ⟨Hb, 0, none⟩), strV q] w fun e w' => e = .returned (.tuple #[.agg (pk4 (ch.find? fun p => decide (p.1 = q))).toArray, .bool (ch.find? fun p => decide (p.1 = q)).isSome]) ∧ Below w.heap.size w w' := by
 obtain ⟨w1, hw1, hb1, hx1, y1, y2⟩ := aBk w #[strV q] 9
 obtain ⟨w2, hw2, hb2, hx2, y3, y4⟩ := aBk w1 #[.string ⟨#[]⟩, .int .i64 0, .int .i64 0, .int .i64 0] 41
 obtain ⟨Bq, hBq⟩ : ∃ b, w.heap.size = b := ⟨_, rfl⟩
 obtain ⟨Br, hBr⟩ : ∃ b, w1.heap.size = b := ⟨_, rfl⟩
 have hb12 := hb1.trans (hb2.mono hb1.size)
 have hx12 := (hb2.block _ (by omega)).trans hx1
 rw [hBq] at hx12; rw [hBr] at hx2
 have hI := hidx_any w2 Z vC ch (hc.below hb12) Bq q (cOh hx12 0)
 have hH2 := (hb12.block _ (loh hH)).trans hH
 obtain ⟨S, -, hS, -, -⟩ := strV_is q
 have hcc := hc
 obtain ⟨aC, cC, rfl, hbn, hcs⟩ := hcc
 obtain ⟨m, hm⟩ : ∃ m, m = ch.length := ⟨_, rfl⟩
 rw [← hm] at hH2 hI hbn
 have hmax := hbn.max
 have k3 := cOh hH2 3
 have HI := hdL hI; have HB := hdL hb12; have HH := hdL hH2; have HX := hdL hx2; have HC := hdL (hc.below hb12); have HM := hdL hm
 have HSZ := hdL (show w.heap.size = Bq ∧ Br = Bq + 1 ∧ w2.heap.size = Bq + 2 from by omega)
 rw [hS]
 rw [hS] at hw1
 have HS := hdL hS
 clear hI hb12 hH2 hH hx2 hx12 hc hcs hb1 hb2 hx1 y1 y2 y3 y4 hm hS hbn
 unfold srC at k3
 go_enter Tryz.func127, Tryz.ntmps127
 go_wp2_with fail
 refine HI.out.mono ?_
 rintro e w3 ⟨⟨i, rfl, hi⟩, h3⟩
 have hx3 := (h3.block _ (loh HX.out)).trans HX.out
 have hH3 := (h3.block _ (loh HH.out)).trans HH.out
 have HX3 := hdL hx3; have H3 := hdL h3
 obtain ⟨z0, z1, z2, z3⟩ := cells4 hx3
 have zf := foh hx3
 rcases hi with ⟨rfl, hf⟩ | ⟨k, p, rfl, hp, hf⟩
 ·have HF := hdL hf
  clear hx3 hH3 h3 hf k3
  go_wp2_with fail
  obtain ⟨W, hW, hWx, hWb, -, -⟩ := four_set HX3.out (.string ⟨#[]⟩) (.int .i64 0) (.int .i64 0) (.int .i64 0)
  rw [hW]
  obtain ⟨r0, r1, r2, r3⟩ := cells4 hWx
  refine bodyPost_ret (v := .tuple #[.agg #[.string ⟨#[]⟩, .int .i64 0, .int .i64 0, .int .i64 0], .bool false]) (by simp [results, Tryz.results127, go_sem, r0, r1, r2, r3]) rfl ?_
  exact ⟨by rw [HF.out]; rfl, hWb _ _ (by have := HSZ.out; omega) (HB.out.trans (H3.out.mono HB.out.size))⟩
 ·have HF := hdL hf
  have hk : k < m := by rw [HM.out]; exact (gEs.1 hp).1
  have hcd := HC.out.below h3
  obtain ⟨aC', cC', e1, -, hcs⟩ := hcd
  obtain ⟨rfl, -, rfl⟩ := Value.slice.inj e1
  obtain ⟨b, o, rfl, _, _, hcs⟩ := hcs (fun e => by rw [e] at hp; cases hp)
  have c0 : w3.cell? ⟨b, o + k * 4, none⟩ = some (strV p.1) := hcs k p hp 0 _ rfl
  have c1 : w3.cell? ⟨b, o + k * 4 + 1, none⟩ = some (.int .i64 p.2.1) := hcs k p hp 1 _ rfl
  have c2 : w3.cell? ⟨b, o + k * 4 + 2, none⟩ = some (.int .i64 p.2.2.1) := hcs k p hp 2 _ rfl
  have c3 : w3.cell? ⟨b, o + k * 4 + 3, none⟩ = some (.int .i64 p.2.2.2) := hcs k p hp 3 _ rfl
  have k3' := cOh hH3 3
  unfold srC at k3'
  obtain ⟨n, x, y, z⟩ := p
  dsimp only at c0 c1 c2 c3
  obtain ⟨T, -, hT, -, -⟩ := strV_is n
  rw [hT] at c0
  have HT := hdL hT
  clear hx3 hH3 h3 hf hp hcs k3 e1 hT
  go_wp2_with fail
  obtain ⟨W, hW, hWx, hWb, -, -⟩ := four_set HX3.out (.string T) (.int .i64 x) (.int .i64 y) (.int .i64 z)
  rw [hW]
  obtain ⟨r0, r1, r2, r3⟩ := cells4 hWx
  refine bodyPost_ret (v := .tuple #[.agg #[.string T, .int .i64 x, .int .i64 y, .int .i64 z], .bool true]) (by simp [results, Tryz.results127, go_sem, r0, r1, r2, r3]) rfl ?_
  refine ⟨?_, hWb _ _ (by have := HSZ.out; omega) (HB.out.trans (H3.out.mono HB.out.size))⟩
  rw [HF.out]
  simp only [pk4, pkL, HT.out]
  rfl
theorem below_drewN (q : Nat) (w : World) : Below w.heap.size w (w.drewN q) := ⟨rfl, rfl, rfl, Nat.le_refl _, fun _ _ => rfl⟩
theorem ch_drewN {S : List Nat} (q : Nat) (w : World) : Ch S w (w.drewN q) := ⟨rfl, rfl, rfl, Nat.le_refl _, fun _ _ _ => rfl⟩
theorem Ch.set1 {w w' : World} {b : Nat} {o : Obj} (h : Ch [b] w w') (hb : w.heap[b]? = some o) (i : Nat) (v : Value) : Ch [b] w (w'.setCell ⟨b, i, none⟩ v) :=
 ⟨h.os, h.tape, h.output, Nat.le_trans h.size (KeepsWalks.setCell w' _ v).size, fun k hk hkS => (bHs _ _ _ k (fun e => hkS (by rw [e]; exact List.mem_singleton_self _))).trans (h.block k hk hkS)⟩
theorem decide_any (w : World) (Hb B : Nat) (vp vW vC : Value) (left made : Int) (hH : w.heap[Hb]? = some (.cells (srC B vp vW vC left made) 146 (0, 0))) (hm : 0 ≤ made) (hl : left ≤ 1000000) :
  Calls Tryz.prog 86 #[.pointer (some ⟨Hb, 0, none⟩)] w fun e w' => (made < left ∧ e = .returned (.tuple #[]) ∧ w'.heap[Hb]? = some (.cells (srC B vp vW vC left (made + 1)) 146 (0, 0)) ∧ Ch [Hb] w w') ∨ (left ≤ made ∧ e = .panicked [{ v := .iface 148 (.agg #[]), recovered := false }] ∧ Below w.heap.size w w') := by
 have k4 := cOh hH 4
 have k5 := cOh hH 5
 have kf := foh hH
 unfold srC at k4 k5
 have HH := hdL hH
 clear hH
 by_cases h : made < left
 ·have h' : ¬ left ≤ made := by omega
  go_enter Tryz.func86, Tryz.ntmps86
  go_wp2_with fail
  go_quiet (fail)
  go_wp2_with fail
  go_end0
  refine .inl ⟨h, rfl, ?_, ?_⟩
  ·have := heap_setCell_here (i := 5) (w := w.drewN nq) (.int .i64 (made + 1)) HH.out
   exact this
  ·exact (ch_drewN nq w).set1 HH.out 5 _
 ·have h' : left ≤ made := by omega
  go_enter Tryz.func86, Tryz.ntmps86
  go_wp2_with fail
  go_quiet (fail)
  go_wp2_with fail
  exact ⟨rfl, .inr ⟨h', rfl, below_drewN nq w⟩⟩
end
section
attribute [local go_sem] Oper.semAt_some
theorem withL_len (l : List Pk) (p : Pk) : (withL l p).length ≤ l.length + 1 := by
 have key : ∀ l : List Pk, (l.filter (fun x => pkLt x p)).length + (l.filter (fun x => pkLt p x)).length ≤ l.length := by
  intro l
  induction l with
  | nil => simp
  | cons x l ih =>
   cases h1 : pkLt x p
   ·cases h2 : pkLt p x
    ·simp only [List.filter_cons, h1, h2, List.length_cons]
     simp only [Bool.false_eq_true, if_false]
     omega
    ·simp only [List.filter_cons, h1, h2, List.length_cons, Bool.false_eq_true, if_false, if_true]
     omega
   ·rw [List.filter_cons, h1, if_pos rfl, List.filter_cons, pkLt_asymm h1]
    simp only [List.length_cons, Bool.false_eq_true, if_false]
    omega
 have := key l
 unfold withL
 rw [lAp, List.length_cons]
 omega
theorem foldl_withL_len (l : List Pk) : ∀ s : List Pk, (l.foldl withL s).length ≤ s.length + l.length := by
 induction l with
 | nil => intro s; simp
 | cons p l ih =>
  intro s
  have h1 := ih (withL s p)
  have h2 := withL_len s p
  rw [List.foldl_cons, List.length_cons]
  omega
theorem sortP_len (l : List Pk) : (sortP l).length ≤ l.length := by
 have := foldl_withL_len l []
 simpa [sortP] using this
theorem fits_len (st : St) (d : Dp) : (st.fits d).length ≤ st.seeds.length + st.recs.length := by
 unfold St.fits
 rw [List.length_reverse]
 refine Nat.le_trans (List.length_filter_le _ _) (Nat.le_trans (sortP_len _) ?_)
 unfold St.pkgs
 rw [lAp, List.length_map]
 exact Nat.le_refl _
def XSol (n0 : Nat) (k : Nat) (o : Obj) : Prop := n0 ≤ k ∧ ∃ c t f, o = .cells c t f ∧ (t = 41 ∨ t = 22 ∨ t = 4)
theorem xsol_row {n0 : Nat} {T : TypeId} (h1 : T ≠ 41) (h2 : T ≠ 22) (h3 : T ≠ 4) (b : Nat) (c : Array Value) (f : Nat × Nat) : ¬ XSol n0 b (.cells c T f) := by
 rintro ⟨_, c', t', f', e, ht⟩
 obtain ⟨rfl, rfl, rfl⟩ := Obj.cells.inj e
 rcases ht with h | h | h
 ·exact h1 h
 ·exact h2 h
 ·exact h3 h
theorem infoPkg : (Tryz.prog.info? 41).map (fun i => (i.zero, i.size, i.bytes)) = some (some (.agg #[.string ByteArray.empty, .int .i64 0, .int .i64 0, .int .i64 0]), 4, 40) := by kernel_rfl
theorem enters_fits : ∀ (args : Array Value) (w : World), (callFunc 154 args).run Tryz.prog w = .ok (.enter 154 args) w := enters_of Tryz.func154 (by kernel_rfl) rfl
def poolOut (pool : List Pk) (pre : List Pk) : List Pk := pre.filter (inP pool)
def FitI (w : World) (Bo Bh Hb : Nat) (pool pre : List Pk) (W : World) : Prop :=
 ∃ v, W.heap[Bo]? = some (.cells #[v] 22 (0, 0)) ∧ W.ownsRow w.heap.size 41 4 v (poolOut pool pre).length ((poolOut pool pre).flatMap pkL) ∧ W.heap[Bh]? = some (.cells #[.pointer (some ⟨Hb, 0, none⟩)] 144 (0, 0)) ∧ Below w.heap.size w W
theorem fitI_own {w : World} {Bo Bh Hb D : Nat} {pool : List Pk} (h1 : Bo < D) (h2 : Bh < D) (h3 : w.heap.size ≤ D) : OwnFrom D (FitI w Bo Bh Hb pool) := by
 rintro pre A C row ⟨v, q1, q2, q3, q4⟩ hg hr
 refine ⟨v, (hg.block Bo (loh q1) (fun e => ?_)).trans q1, q2.kept hg ?_, (hg.block Bh (loh q3) (fun e => ?_)).trans q3, q4.grown hg q4.size (fun k e => Nat.le_trans h3 (hr k e).1)⟩
 ·have := (hr _ e.symm).1; omega
 ·cases hv : v.ownBlock with
  | none => exact .inl rfl
  | some g =>
   refine .inr fun e => ?_
   obtain ⟨_, o, ho, hc⟩ := hr g e.symm
   rcases q2.2 with ⟨rfl, _⟩ | ⟨g', cap, cur, rfl, _, hgb, _⟩
   ·cases hv
   ·obtain rfl : g' = g := by simpa [Value.ownBlock] using hv
    rw [hgb] at ho
    obtain rfl := sIj ho
    cases hc
 ·have := (hr _ e.symm).1; omega
theorem fitI_below {w W W' : World} {Bo Bh Hb : Nat} {pool pre : List Pk} (h : FitI w Bo Bh Hb pool pre W) (hb : Below W.heap.size W W') : FitI w Bo Bh Hb pool pre W' :=
 own_below (fitI_own (D := Bo + Bh + w.heap.size + 1) (by omega) (by omega) (by omega)) h hb
theorem row_kind {W : World} {base k : Nat} {v : Value} {xs : List Value} (h : W.ownsRow base 41 4 v k xs) {g : Nat} (hg : v.ownBlock = some g) : base ≤ g ∧ ∃ cur, W.heap[g]? = some (.cells cur 41 (0, 0)) := by
 rcases h.2 with ⟨rfl, _⟩ | ⟨g', cap, cur, rfl, hb, hgb, _⟩
 ·cases hg
 ·obtain rfl : g' = g := by simpa [Value.ownBlock] using hg
  exact ⟨hb, cur, hgb⟩
theorem fit_push {w W w5 : World} {Bo Bh Hb k : Nat} {v v' : Value} {xs ys : List Value} {o : Obj} (h1 : W.heap[Bo]? = some (.cells #[v] 22 (0, 0))) (h2 : W.ownsRow w.heap.size 41 4 v k xs) (h3 : W.heap[Bh]? = some (.cells #[.pointer (some ⟨Hb, 0, none⟩)] 144 (0, 0))) (h4 : Below w.heap.size w W)
  (hg : (W.alloc o).grownBy w5 v.ownBlock) (hown : w5.ownsRow w.heap.size 41 4 v' (k + 1) ys) (hBo : w.heap.size ≤ Bo) :
  w5.heap[Bo]? = some (.cells #[v] 22 (0, 0)) ∧ OnlyX (XSol w.heap.size) W (w5.setCell ⟨Bo, 0, none⟩ v') ∧ (w5.setCell ⟨Bo, 0, none⟩ v').heap[Bo]? = some (.cells #[v'] 22 (0, 0)) ∧ (w5.setCell ⟨Bo, 0, none⟩ v').ownsRow w.heap.size 41 4 v' (k + 1) ys ∧
   (w5.setCell ⟨Bo, 0, none⟩ v').heap[Bh]? = some (.cells #[.pointer (some ⟨Hb, 0, none⟩)] 144 (0, 0)) ∧ Below w.heap.size w (w5.setCell ⟨Bo, 0, none⟩ v') := by
 have hba : Below W.heap.size W (W.alloc o) := (Below.refl _ W).alloc (Nat.le_refl _) _
 have key : ∀ (b : Nat) (c : Array Value) (t : TypeId), t ≠ 41 → W.heap[b]? = some (.cells c t (0, 0)) → w5.heap[b]? = some (.cells c t (0, 0)) := fun b c t ht hb => by
  have hb' := (hba.block b (loh hb)).trans hb
  refine (hg.block b (loh hb') (fun e => ?_)).trans hb'
  obtain ⟨_, cur, hc⟩ := row_kind h2 e.symm
  rw [hb] at hc
  exact ht (Obj.cells.inj (sIj hc)).2.1
 have e1 := key Bo _ _ (by decide) h1
 have e3 := key Bh _ _ (by decide) h3
 have ho5 : OnlyX (XSol w.heap.size) W w5 := (OnlyX.of_below hba).trans (OnlyX.of_grown hg (fun g o' e ho => by
  obtain ⟨hb, cur, hc⟩ := row_kind h2 e
  have hc' := (hba.block g (loh hc)).trans hc
  rw [hc'] at ho
  obtain rfl := sIj ho
  exact ⟨rfl, hb, _, _, _, rfl, .inl rfl⟩))
 have hb5 : Below w.heap.size w w5 := (h4.alloc h4.size o).grown hg (Nat.le_trans h4.size hba.size) (fun g e => (row_kind h2 e).1)
 have hne : Bo ≠ Bh := fun e => by
  subst e
  rw [h1] at h3
  have := (Obj.cells.inj (sIj h3)).2.1
  exact absurd this (by decide)
 have hset : ∀ b, b ≠ Bo → (w5.setCell ⟨Bo, 0, none⟩ v').heap[b]? = w5.heap[b]? := fun b hb => bHs _ _ _ b hb
 refine ⟨e1, ho5.trans (OnlyX.set e1 rfl ⟨hBo, _, _, _, rfl, .inr (.inl rfl)⟩), heap_setCell_here (i := 0) v' e1, hown.kept (grownBy_setCell' w5 Bo v') ?_, (hset Bh (fun e => hne e.symm)).trans e3, hb5.setCell (p := ⟨Bo, 0, none⟩) hBo v'⟩
 cases hv : v'.ownBlock with
 | none => exact .inl rfl
 | some g =>
  refine .inr fun e => ?_
  obtain rfl : g = Bo := sIj e
  obtain ⟨_, cur, hc⟩ := row_kind hown hv
  rw [e1] at hc
  have := (Obj.cells.inj (sIj hc)).2.1
  exact absurd this (by decide)
theorem sfits_any (w : World) (Hb B : Nat) (F : List Nat) (st : St) (vp vW vC : Value) (left made : Int) (Z Zp : Zone) (pool : List Pk) (d : Dp) (v1 : Value)
  (hH : w.heap[Hb]? = some (.cells (srC B vp vW vC left made) 146 (0, 0))) (hst : StkAt w B F st) (hp : PkgsAt Zp w vp pool) (hd : GapsAt Z w v1 d.2) :
  Calls Tryz.prog 85 #[.pointer (some ⟨Hb, 0, none⟩), .agg #[strV d.1, v1]] w fun e w' => ∃ v', e = .returned v' ∧ w'.ownsRow w.heap.size 41 4 v' (st.fitsP pool d).length ((st.fitsP pool d).flatMap pkL) ∧ Below w.heap.size w w' := by
 obtain ⟨S, -, hS, -, -⟩ := strV_is d.1
 have hd0 := hd
 have hd' : GapsAt (fun b => Z b ∧ b < w.heap.size) w v1 d.2 := hd.keep ⟨fun b hb hz => ⟨hz, hb⟩, Nat.le_refl _, fun _ _ _ h => h⟩
 obtain ⟨a, c, rfl, -, -⟩ := hd0
 obtain ⟨w1, hw1, hb1, hx1, y1, y2⟩ := aBk w #[.pointer (some ⟨Hb, 0, none⟩)] 144
 obtain ⟨w2, hw2, hb2, hx2, y3, y4⟩ := aBk w1 #[strV d.1, .slice a d.2.length c] 59
 obtain ⟨w3, hw3, hb3, hx3, y5, y6⟩ := aBk w2 #[.slice none 0 0] 22
 obtain ⟨Bh, hBh⟩ : ∃ b, w.heap.size = b := ⟨_, rfl⟩
 obtain ⟨Bd, hBd⟩ : ∃ b, w1.heap.size = b := ⟨_, rfl⟩
 obtain ⟨Bo, hBo⟩ : ∃ b, w2.heap.size = b := ⟨_, rfl⟩
 have hb12 := hb1.trans (hb2.mono hb1.size)
 have hb13 := hb12.trans (hb3.mono hb12.size)
 have hx13 := (hb3.block _ (by omega)).trans ((hb2.block _ (by omega)).trans hx1)
 have hx23 := (hb3.block _ (by omega)).trans hx2
 rw [hBh] at hx13; rw [hBd] at hx23; rw [hBo] at hx3
 have hH3 := (hb13.block _ (loh hH)).trans hH
 have k0 := cOh hx13 0
 have k1 := cOh hH3 0
 unfold srC at k1
 rw [hS] at hx23 hw2 ⊢
 obtain ⟨k2, k3⟩ := cells2 hx23
 have HPW := hdL hp; have HHW := hdL hH
 have HS := hdL hS; have HB13 := hdL hb13; have HX1 := hdL hx13; have HX2 := hdL hx23; have HX3 := hdL hx3; have HST := hdL (hst.below hb13); have HPO := hdL (hp.below hb13); have HD := hdL (hd'.below hb13); have HH := hdL hH3
 have HLN := hdL (fits_len st d)
 have HFEW := hdL (show st.seeds.length ≤ 8 ∧ st.recs.length ≤ 32 from by obtain ⟨_, _, _, _, h⟩ := hst; exact h.few)
 have HSZ := hdL (show w.heap.size = Bh ∧ Bd = Bh + 1 ∧ Bo = Bh + 2 ∧ w3.heap.size = Bh + 3 from by omega)
 clear hS hb13 hx13 hx23 hx3 hst hp hd hd' hH3 hH hb1 hb2 hb3 hb12 hx1 hx2 y1 y2 y3 y4 y5 y6
 refine calls_of_wp_marks Tryz.func85 rfl ?_
 simp only [Tryz.ntmps85, List.size_toArray, List.length_cons, List.length_nil, Nat.reduceAdd, Nat.reduceSub, Array.replicate_succ, Array.replicate_zero, List.push_toArray, List.append_toArray, List.nil_append, List.cons_append]
 go_wp2_with fail
 go_region_held3 (fun W : World => W.cell? ⟨Bh, 0, none⟩ = some (.pointer (some ⟨Hb, 0, none⟩)) ∧ W.cell? ⟨Hb, 0, none⟩ = some (.pointer (some ⟨B, 0, none⟩)) ∧ W.cell? ⟨Bd, 0, none⟩ = some (.string S) ∧ W.cell? ⟨Bd, 1, none⟩ = some (.slice a d.2.length c)) (first | exact ⟨k0, k1, k2, k3⟩ | exact ⟨j0, j1, j2, j3⟩ | go_keep) (first | (go_at_call 125; refine (fitsf_any _ B S a d.2.length c).mono ?_; rintro e w4 ⟨rfl, e4⟩; have hb4 : Below w3.heap.size w3 w4 := (by rw [e4]; exact (((Below.refl w3.heap.size w3).drew).alloc (Nat.le_refl _) _).alloc (by simp) _); have j0 := (bkp hb4 _ _ k0); have j1 := (bkp hb4 _ _ k1); have j2 := (bkp hb4 _ _ k2); have j3 := (bkp hb4 _ _ k3); have H4 := hdL hb4; have E4 := hdL e4; clear hb4 e4))
 have hC1 : w4.heap[w3.heap.size]? = some (.cells #[.pointer (some ⟨B, 0, none⟩)] 27 (0, 0)) := by
  rw [E4.out, Below.heap_alloc _ _ _ (by simp)]
  exact heap_alloc_new w3.drew _
 have hC2 : w4.heap[w3.heap.size + 1]? = some (.cells #[strV d.1, .slice a d.2.length c] 59 (0, 0)) := by
  rw [E4.out, HS.out, show w3.heap.size + 1 = (w3.drew.alloc (.cells #[.pointer (some ⟨B, 0, none⟩)] 27)).heap.size by simp]
  exact heap_alloc_new _ _
 have hb4 := H4.out
 have hb14 := HB13.out.trans (hb4.mono HB13.out.size)
 have hx1 := (hb4.block _ (loh HX1.out)).trans HX1.out
 have hx3 := (hb4.block _ (loh HX3.out)).trans HX3.out
 have hst := fits_stops 5 (by omega) w4 B F st (HST.out.below hb4) d _ _ (HD.out.below hb4) w3.heap.size (w3.heap.size + 1) hC1 hC2 (XSol w.heap.size) (fun b hz o hx => by have := hx.1; have := hz.2; omega) (xsol_row (by decide) (by decide) (by decide)) (xsol_row (by decide) (by decide) (by decide)) (xsol_row (by decide) (by decide) (by decide))
 have HSTOP := hdL hst; have HB14 := hdL hb14; have HX14 := hdL hx1; have HX34 := hdL hx3
 have HPO4 := hdL (HPO.out.below hb4); have HH4 := hdL ((hb4.block _ (loh HH.out)).trans HH.out)
 have HZ4 := hdL (show Bh < w4.heap.size ∧ Bo < w4.heap.size ∧ w.heap.size ≤ w4.heap.size from by have := hb4.size; have := HSZ.out; omega)
 clear hC1 hC2 hb4 hb14 hx1 hx3 hst k0 k1 k2 k3 j0 j1 j2 j3
 go_wp2_with fail
 refine (wpIn_wide (n := 6)).1 ?_
 refine range_wide (n := 6) (by omega) (gf := 154) (lb := #[.pointer (some ⟨w3.heap.size, 0, none⟩), .pointer (some ⟨w3.heap.size + 1, 0, none⟩)]) rfl enters_fits HSTOP.out (Below.refl _ _) (fun _ => rfl)
  (FitI w Bo Bh Hb pool) (fun _ _ _ => False) (fitI_own HZ4.out.2.1 HZ4.out.1 HZ4.out.2.2) (fun c s P Q row hs hg hr => hs)
  ⟨.slice none 0 0, HX34.out, World.ownsRow_nil _ _ _ _, HX14.out, HB14.out⟩ ?round ?done ?stop
 case round =>
  rintro l2 pre x Wr - hpre
  obtain ⟨T, -, hT, -, -⟩ := strV_is x.1
  unfold encPk
  rw [hT]
  gi_wp2
  refine ⟨(Below.refl _ _).alloc (Nat.le_refl _) _, ?_⟩
  rintro W2 ⟨v, i1, i2, i3, i4⟩ hsame
  have hp2 := hsame.heap (heap_alloc_new Wr (.cells #[.string T, .int .i64 x.2.1, .int .i64 x.2.2.1, .int .i64 x.2.2.2] 41))
  have h1n : 1 ≤ 6 - 1 - 1 := by decide
  have mixed : Tryz.prog.follows .mixedOrders = true := by kernel_rfl
  obtain ⟨Bp, hBp⟩ : ∃ b, Wr.heap.size = b := ⟨_, rfl⟩
  rw [hBp] at hp2 ⊢
  have hcon := con_any W2.drew Zp vp pool (HPW.out.below (i4.trans (((Below.refl W2.heap.size W2).drew).mono i4.size))) x
  have hsn : poolOut pool (pre ++ [x]) = poolOut pool pre ++ (if inP pool x then [x] else []) := by
   unfold poolOut
   rw [List.filter_append]
   cases hx : inP pool x <;> simp [hx]
  have hpk : (if inP pool x then [x] else []).flatMap pkL = if inP pool x then [.string T, .int .i64 x.2.1, .int .i64 x.2.2.1, .int .i64 x.2.2.2] else [] := by
   cases inP pool x
   ·rfl
   ·simp [pkL, hT]
  rw [hT] at hcon
  have hlp : (poolOut pool pre).length < 40 := by
   have h1 := hpre.length_le
   have h2 := HLN.out
   have h3 := HFEW.out
   have h4 : (poolOut pool pre).length ≤ pre.length := List.length_filter_le _ _
   rw [lAp, lSg] at h1
   omega
  obtain ⟨n, p1, p2, p3⟩ := x
  dsimp only at hp2 hcon hpk
  have k0 := cOh i3 0
  have k1 := cOh ((i4.block _ (loh HHW.out)).trans HHW.out) 1
  obtain ⟨q0, q1, q2, q3⟩ := cells4 hp2
  have o0 := cOh i1 0
  unfold srC at k1
  have HI1 := hdL i1; have HI2 := hdL i2; have HI3 := hdL i3; have HI4 := hdL i4; have HP2 := hdL hp2; have HLP := hdL hlp; have HSN := hdL hsn; have HPK := hdL hpk
  clear i1 i2 i3 i4 hp2 hsame hpre hT hlp hsn hpk
  cases hin : inP pool (n, p1, p2, p3)
  ·rw [hin] at hcon
   have HCON := hdL hcon; have HIN := hdL hin
   clear hcon hin
   gi_wp2
   gi_region_with_o (refine ⟨trivial, ?_⟩; gi_at_call 126; refine (CallsIn.inRound l2 ((callsIn_wide (n := 3)).2 HCON.out)).mono ?_; rintro e W3 ⟨rfl, h3⟩)
   all_goals
    have hb3 : Below W2.heap.size W2 W3 := ((Below.refl W2.heap.size W2).drew).trans h3
    have HR3 := hdL (RndX.of_below (X := XSol w.heap.size) (n := w4.heap.size) hb3)
    have HF3 := hdL (fitI_below (pre := pre) ⟨v, HI1.out, HI2.out, HI3.out, HI4.out⟩ hb3)
    clear hb3 h3
    gi_wp2
    refine ⟨HR3.out, ?_⟩
    have hsn := HSN.out
    rw [HIN.out] at hsn
    obtain ⟨v', t1, t2, t3, t4⟩ := HF3.out
    refine ⟨v', t1, ?_, t3, t4⟩
    rw [hsn]
    simpa using t2
  ·rw [hin] at hcon
   have HCON := hdL hcon; have HIN := hdL hin
   clear hcon hin
   obtain ⟨i0', hi, hz0, hz1, hz2⟩ := info_parts infoPkg
   gi_wp2
   gi_region_with_o (refine ⟨trivial, ?_⟩; gi_at_call 126; refine (CallsIn.inRound l2 ((callsIn_wide (n := 3)).2 HCON.out)).mono ?_; rintro e W3 ⟨rfl, h3⟩)
   all_goals
    have hb3 : Below W2.heap.size W2 W3 := ((Below.refl W2.heap.size W2).drew).trans h3
    obtain ⟨m1, hm1⟩ : ∃ m, m = (poolOut pool pre).length := ⟨_, rfl⟩
    have t1 := (hb3.block _ (loh HI1.out)).trans HI1.out
    have t2 := (fitI_below (pre := pre) ⟨v, HI1.out, HI2.out, HI3.out, HI4.out⟩ hb3)
    have t3 := (hb3.block _ (loh HI3.out)).trans HI3.out
    have t4 := HI4.out.trans (hb3.mono HI4.out.size)
    have tp := (hb3.block _ (loh HP2.out)).trans HP2.out
    have hrow := HI2.out.kept (grown_below hb3) (by cases hv : v.ownBlock with | none => exact .inl rfl | some g => exact .inr (fun e => by cases e))
    have HR3 := hdL (RndX.of_below (X := XSol w.heap.size) (n := w4.heap.size) hb3)
    have T1 := hdL t1; have T3 := hdL t3; have T4 := hdL t4; have HROW := hdL hrow
    have k0' := cOh t1 0
    obtain ⟨p0, p1', p2', p3'⟩ := cells4 tp
    have hlp := HLP.out
    rw [← hm1] at hrow hlp
    clear hb3 h3 t1 t2 t3 t4 tp k0 k1 q0 q1 q2 q3 o0
    gi_wp2_with (gi_at_builtin; refine wpListIn_append_own _ rfl _ _ 22 rfl w.heap.size 41 i0' _ 4 40 Tryz.underlying22 hi hz0 hz1 hz2 rfl (by decide) v m1 _ rfl (hrow.alloc _) ⟨W3.heap.size, 0, none⟩ 1 1 [.string T, .int .i64 p1, .int .i64 p2, .int .i64 p3] rfl rfl (fun j u hj => by rw [Addr.add_lit, Nat.zero_add, cOh (heap_alloc_new _ _)]; simpa using hj) (by simp [Value.oneCell']) (by unfold maxLen; omega) (by omega) (by have := T4.out.size; simp; omega) ?_; intro v' w5 hown' hgrow _; obtain ⟨g', cap', rfl⟩ := ownsRow_succ hown'; have hpush := fit_push T1.out HROW.out T3.out T4.out hgrow (by rw [← hm1]; exact hown') (by have := HSZ.out; omega); have hc1 := cOh hpush.1 0; have hf1 := foh hpush.1 0)
    subst hm1
    have hsn := HSN.out
    have hpk := HPK.out
    rw [HIN.out, if_pos rfl] at hsn
    rw [HIN.out, if_pos rfl, if_pos rfl] at hpk
    refine ⟨HR3.out.trans hpush.2.1.rnd, _, hpush.2.2.1, ?_, hpush.2.2.2.2.1, hpush.2.2.2.2.2⟩
    rw [hsn, List.flatMap_append, hpk, lAp, lSg]
    exact hpush.2.2.2.1
 case done =>
  rintro D ys V hD rfl ⟨v, q1, q2, q3, q4⟩ hK
  have o0 := cOh q1 0
  have HK := hdL hK; have HQ2 := hdL q2; have HQ4 := hdL q4
  clear hK q1 q2 q3 q4
  go_wp2_with fail
  refine marks_ret1 (v := v) rfl HK.out (by simp [results, Tryz.results85, go_sem]) ⟨v, rfl, ownsRow_putObj HQ2.out _ HK.out rfl, ?_⟩
  exact HQ4.out.grown (grownBy_putObj' V D _) HQ4.out.size (fun k e => by obtain rfl : D = k := sIj e; have := HZ4.out.2.2; omega)
 case stop =>
  rintro D c9 pre V hD hp hx hK
  exact hx.elim
end
section
attribute [local go_sem] Oper.semAt_some
structure WillI (w : World) (Br Bp : Nat) (T : ByteArray) (p1 p2 p3 : Int) (b : Bool) (W : World) : Prop where
 r : W.heap[Br]? = some (.cells #[.bool b] 4 (0, 0))
 p : W.heap[Bp]? = some (.cells #[.string T, .int .i64 p1, .int .i64 p2, .int .i64 p3] 41 (0, 0))
 bel : Below w.heap.size w W
theorem willI_own {β : Type} {w : World} {Br Bp D : Nat} {T : ByteArray} {p1 p2 p3 : Int} {b : Bool} {q : β → Prop} (h1 : Br < D) (h2 : Bp < D) (h3 : w.heap.size ≤ D) : OwnFrom D (fun pre W => q pre ∧ WillI w Br Bp T p1 p2 p3 b W) := by
 rintro pre A C row ⟨hq, q1, q2, q3⟩ hg hr
 exact ⟨hq, (hg.block _ (loh q1) (fun e => by have := (hr _ e.symm).1; omega)).trans q1, (hg.block _ (loh q2) (fun e => by have := (hr _ e.symm).1; omega)).trans q2, q3.grown hg q3.size (fun k e => Nat.le_trans h3 (hr k e).1)⟩
theorem will_no {p x : Pk} {pre : List Pk} (h : p ∉ pre) (hx : ¬ x = p) : p ∉ pre ++ [x] := by
 intro hm
 rcases List.mem_append.1 hm with hm | hm
 ·exact h hm
 ·exact hx (mSg.1 hm).symm
theorem swill_any (w : World) (Hb B : Nat) (F : List Nat) (st : St) (vp vW vC : Value) (left made : Int) (Z : Zone) (d : Dp) (v1 : Value) (p : Pk)
  (hH : w.heap[Hb]? = some (.cells (srC B vp vW vC left made) 146 (0, 0))) (hst : StkAt w B F st) (hd : GapsAt Z w v1 d.2) :
  Calls Tryz.prog 128 #[.pointer (some ⟨Hb, 0, none⟩), .agg #[strV d.1, v1], .agg #[strV p.1, .int .i64 p.2.1, .int .i64 p.2.2.1, .int .i64 p.2.2.2]] w fun e w' => e = .returned (.bool (inP (st.fits d) p)) ∧ Below w.heap.size w w' := by
 obtain ⟨S, -, hS, -, -⟩ := strV_is d.1
 obtain ⟨U, -, hU, hUd, -⟩ := strV_is p.1
 have hd0 := hd
 have hd' : GapsAt (fun b => Z b ∧ b < w.heap.size) w v1 d.2 := hd.keep ⟨fun b hb hz => ⟨hz, hb⟩, Nat.le_refl _, fun _ _ _ h => h⟩
 obtain ⟨a, c, rfl, -, -⟩ := hd0
 have heq := fun (x : Pk) (W : World) => eqPk.1 x p W
 obtain ⟨w1, hw1, hb1, hx1, y1, y2⟩ := aBk w #[strV d.1, .slice a d.2.length c] 59
 obtain ⟨w2, hw2, hb2, hx2, y3, y4⟩ := aBk w1 #[strV p.1, .int .i64 p.2.1, .int .i64 p.2.2.1, .int .i64 p.2.2.2] 41
 obtain ⟨w3, hw3, hb3, hx3, y5, y6⟩ := aBk w2 #[.bool false] 4
 obtain ⟨Bd, hBd⟩ : ∃ b, w.heap.size = b := ⟨_, rfl⟩
 obtain ⟨Bp, hBp⟩ : ∃ b, w1.heap.size = b := ⟨_, rfl⟩
 obtain ⟨Br, hBr⟩ : ∃ b, w2.heap.size = b := ⟨_, rfl⟩
 have hb12 := hb1.trans (hb2.mono hb1.size)
 have hb13 := hb12.trans (hb3.mono hb12.size)
 have hx13 := (hb3.block _ (by omega)).trans ((hb2.block _ (by omega)).trans hx1)
 have hx23 := (hb3.block _ (by omega)).trans hx2
 rw [hBd] at hx13; rw [hBp] at hx23; rw [hBr] at hx3
 have hH3 := (hb13.block _ (loh hH)).trans hH
 rw [hS] at hx13 hw1 ⊢
 rw [hU] at hx23 hw2 ⊢
 have k1 := cOh hH3 0
 unfold srC at k1
 obtain ⟨k2, k3⟩ := cells2 hx13
 obtain ⟨pn, p1, p2, p3⟩ := p
 dsimp only at hx23 hw2 hU hUd ⊢
 have HUD := hdL hUd
 have HEQ := hdL heq; have HU := hdL hU
 have HS := hdL hS; have HB13 := hdL hb13; have HX1 := hdL hx13; have HX2 := hdL hx23; have HX3 := hdL hx3; have HST := hdL (hst.below hb13); have HD := hdL (hd'.below hb13)
 have HSZ := hdL (show w.heap.size = Bd ∧ Bp = Bd + 1 ∧ Br = Bd + 2 ∧ w3.heap.size = Bd + 3 from by omega)
 clear hS hU hUd heq hb13 hx13 hx23 hx3 hst hd hd' hH3 hH hb1 hb2 hb3 hb12 hx1 hx2 y1 y2 y3 y4 y5 y6
 refine calls_of_wp_marks Tryz.func128 rfl ?_
 simp only [Tryz.ntmps128, List.size_toArray, List.length_cons, List.length_nil, Nat.reduceAdd, Nat.reduceSub, Array.replicate_succ, Array.replicate_zero, List.push_toArray, List.append_toArray, List.nil_append, List.cons_append]
 go_wp2_with fail
 go_region_held3 (fun W : World => W.cell? ⟨Hb, 0, none⟩ = some (.pointer (some ⟨B, 0, none⟩)) ∧ W.cell? ⟨Bd, 0, none⟩ = some (.string S) ∧ W.cell? ⟨Bd, 1, none⟩ = some (.slice a d.2.length c)) (first | exact ⟨k1, k2, k3⟩ | exact ⟨j1, j2, j3⟩ | go_keep) (first | (go_at_call 125; refine (fitsf_any _ B S a d.2.length c).mono ?_; rintro e w4 ⟨rfl, e4⟩; have hb4 : Below w3.heap.size w3 w4 := (by rw [e4]; exact (((Below.refl w3.heap.size w3).drew).alloc (Nat.le_refl _) _).alloc (by simp) _); have j1 := (bkp hb4 _ _ k1); have j2 := (bkp hb4 _ _ k2); have j3 := (bkp hb4 _ _ k3); have H4 := hdL hb4; have E4 := hdL e4; clear hb4 e4))
 have hC1 : w4.heap[w3.heap.size]? = some (.cells #[.pointer (some ⟨B, 0, none⟩)] 27 (0, 0)) := by
  rw [E4.out, Below.heap_alloc _ _ _ (by simp)]
  exact heap_alloc_new w3.drew _
 have hC2 : w4.heap[w3.heap.size + 1]? = some (.cells #[strV d.1, .slice a d.2.length c] 59 (0, 0)) := by
  rw [E4.out, HS.out, show w3.heap.size + 1 = (w3.drew.alloc (.cells #[.pointer (some ⟨B, 0, none⟩)] 27)).heap.size by simp]
  exact heap_alloc_new _ _
 have hb4 := H4.out
 have hb14 := HB13.out.trans (hb4.mono HB13.out.size)
 have hx2 := (hb4.block _ (loh HX2.out)).trans HX2.out
 have hx3 := (hb4.block _ (loh HX3.out)).trans HX3.out
 have hst := fits_stops 5 (by omega) w4 B F st (HST.out.below hb4) d _ _ (HD.out.below hb4) w3.heap.size (w3.heap.size + 1) hC1 hC2 (XSol w.heap.size) (fun b hz o hx => by have := hx.1; have := hz.2; omega) (xsol_row (by decide) (by decide) (by decide)) (xsol_row (by decide) (by decide) (by decide)) (xsol_row (by decide) (by decide) (by decide))
 have HSTOP := hdL hst; have HW4 := hdL (show WillI w Br Bp U p1 p2 p3 false w4 from ⟨hx3, hx2, hb14⟩)
 have HZ4 := hdL (show Bp < w4.heap.size ∧ Br < w4.heap.size ∧ w.heap.size ≤ w4.heap.size from by have := hb4.size; have := HSZ.out; omega)
 clear hC1 hC2 hb4 hb14 hx2 hx3 hst k1 k2 k3 j1 j2 j3
 go_wp2_with fail
 refine (wpIn_wide (n := 6)).1 ?_
 refine range_wide (n := 6) (by omega) (gf := 154) (lb := #[.pointer (some ⟨w3.heap.size, 0, none⟩), .pointer (some ⟨w3.heap.size + 1, 0, none⟩)]) rfl enters_fits HSTOP.out (Below.refl _ _) (fun _ => rfl)
  (fun pre W => (pn, p1, p2, p3) ∉ pre ∧ WillI w Br Bp U p1 p2 p3 false W) (fun c pre W => (c = .ret ∧ (pn, p1, p2, p3) ∈ pre) ∧ WillI w Br Bp U p1 p2 p3 true W) (willI_own HZ4.out.2.1 HZ4.out.1 HZ4.out.2.2) (fun c => willI_own HZ4.out.2.1 HZ4.out.1 HZ4.out.2.2)
  ⟨List.not_mem_nil, HW4.out⟩ ?round ?done ?stop
 case round =>
  rintro l2 pre x Wr - hpre
  obtain ⟨T, -, hT, hTd, -⟩ := strV_is x.1
  unfold encPk
  rw [hT]
  gi_wp2
  refine ⟨(Below.refl _ _).alloc (Nat.le_refl _) _, ?_⟩
  rintro W2 ⟨hno, i1, i2, i3⟩ hsame
  have hp2 := hsame.heap (heap_alloc_new Wr (.cells #[.string T, .int .i64 x.2.1, .int .i64 x.2.2.1, .int .i64 x.2.2.2] 41))
  obtain ⟨Bq, hBq⟩ : ∃ b, Wr.heap.size = b := ⟨_, rfl⟩
  rw [hBq] at hp2 ⊢
  have heq := HEQ.out x W2
  obtain ⟨n, x1, x2, x3⟩ := x
  dsimp only at hp2 hT hTd heq
  simp only [pkL, hT, HU.out] at heq
  obtain ⟨q0, q1, q2, q3⟩ := cells4 hp2
  obtain ⟨m0, m1, m2, m3⟩ := cells4 i2
  have r0 := cOh i1 0
  have rf := foh i1
  have HNO := hdL hno; have HI := hdL (show WillI w Br Bp U p1 p2 p3 false W2 from ⟨i1, i2, i3⟩)
  have HO := hdL (show OnlyX (XSol w.heap.size) W2 (W2.setCell ⟨Br, 0, none⟩ (.bool true)) from OnlyX.set i1 rfl ⟨by have := HSZ.out; omega, _, _, _, rfl, .inr (.inr rfl)⟩)
  have hT1 := hT
  clear i1 i2 i3 hp2 hsame hpre hT hno
  have hver := fun V => eqVer x1 x2 x3 p1 p2 p3 V
  have hTU : T = U ↔ n = pn := by
   have h1 := hT1; have h2 := HU.out
   constructor
   ·rintro rfl
    rw [← h2] at h1
    exact strV_inj.1 h1
   ·rintro rfl
    exact (Value.string.inj (h1.symm.trans h2))
  clear heq
  by_cases hn : n = pn
  ·have hTe := hTU.2 hn
   subst hTe
   by_cases hv : x1 = p1 ∧ x2 = p2 ∧ x3 = p3
   ·have hx : ((n, x1, x2, x3) : Pk) = (pn, p1, p2, p3) := by obtain ⟨rfl, rfl, rfl⟩ := hv; rw [hn]
    simp only [decide_eq_true hv] at hver
    have HX := hdL hx
    clear hx hv hTU hn hT1 hTd
    gi_wp2
    refine ⟨HO.out.rnd, ⟨rfl, ?_⟩, heap_setCell_here (i := 0) (.bool true) HI.out.r, (bHs _ _ _ _ (show Bp ≠ Br from by have := HSZ.out; omega)).trans HI.out.p, HI.out.bel.setCell (p := ⟨Br, 0, none⟩) (by have := HSZ.out; show w.heap.size ≤ Br; omega) _⟩
    rw [HX.out]; simp
   ·have hx : ¬ ((n, x1, x2, x3) : Pk) = (pn, p1, p2, p3) := fun e => hv (by injection e with _ e; injection e with e1 e; injection e with e2 e3; exact ⟨e1, e2, e3⟩)
    simp only [decide_eq_false hv] at hver
    have HX := hdL hx
    clear hx hv hTU hn hT1 hTd
    gi_wp2
    exact ⟨RndX.refl _ _ _, will_no HNO.out HX.out, HI.out⟩
  ·have hx : ¬ ((n, x1, x2, x3) : Pk) = (pn, p1, p2, p3) := fun e => hn (by injection e)
   have hne : ¬ T = U := fun e => hn (hTU.1 e)
   have hnl := str_eqb T U n pn hTd HUD.out
   rw [decide_eq_false hn] at hnl
   have HX := hdL hx
   clear hx hTU hn hT1 hTd
   gi_wp2
   exact ⟨RndX.refl _ _ _, will_no HNO.out HX.out, HI.out⟩
 case done =>
  rintro D ys V hD rfl ⟨hno, i1, i2, i3⟩ hK
  have r0 := cOh i1 0
  have rf := foh i1
  have HK := hdL hK; have HI := hdL (show WillI w Br Bp U p1 p2 p3 false V from ⟨i1, i2, i3⟩); have HNO := hdL hno
  clear hK i1 i2 i3 hno
  go_wp2_with fail
  have hset : (V.setCell ⟨Br, 0, none⟩ (.bool false)).heap[D]? = some (.deferred (some [])) := (bHs _ _ _ _ (show D ≠ Br from by have := HZ4.out; omega)).trans HK.out
  have k2 : ((V.setCell ⟨Br, 0, none⟩ (.bool false)).putObj D (.deferred none)).cell? ⟨Br, 0, none⟩ = some (.bool false) := by
   rw [World.cell?_of_block (World.putObj_heap_other (show Br ≠ D from by have := HZ4.out; omega)), cOh (heap_setCell_here (i := 0) (.bool false) HI.out.r)]
   rfl
  refine marks_ret1 (v := .bool false) rfl hset (by simp [results, Tryz.results128, go_sem, k2]) ⟨?_, ?_⟩
  ·congr 2
   symm
   rw [Bool.eq_false_iff]
   intro h
   exact HNO.out (inP_iff.1 h)
  ·exact (HI.out.bel.setCell (p := ⟨Br, 0, none⟩) (by have := HSZ.out; show w.heap.size ≤ Br; omega) _).grown (grownBy_putObj' _ D _) (by have := HI.out.bel.size; simpa [World.setCell] using this) (fun k e => by obtain rfl : D = k := sIj e; have := HZ4.out.2.2; omega)
 case stop =>
  rintro D c9 pre V hD hp ⟨⟨rfl, hm⟩, hi⟩ hK
  have HK := hdL hK; have HI := hdL hi
  have HM := hdL (show (pn, p1, p2, p3) ∈ st.fits d from by obtain ⟨r, hr⟩ := hp; rw [← hr]; exact List.mem_append_left _ hm)
  clear hK hi hp hm
  refine wpIn_wide.2 ?_
  go_wp2_with fail
  have k2 : (V.putObj D (.deferred none)).cell? ⟨Br, 0, none⟩ = some (.bool true) := by
   rw [World.cell?_of_block (World.putObj_heap_other (show Br ≠ D from by have := HZ4.out; omega)), cOh HI.out.r]
   rfl
  refine marks_ret1 (v := .bool true) rfl HK.out (by simp [results, Tryz.results128, go_sem, k2]) ⟨?_, ?_⟩
  ·congr 2
   exact (inP_iff.2 HM.out).symm
  ·exact HI.out.bel.grown (grownBy_putObj' _ D _) HI.out.bel.size (fun k e => by obtain rfl : D = k := sIj e; have := HZ4.out.2.2; omega)
end
end Go.Proofs.YtaagkndhgicifaaGreat
