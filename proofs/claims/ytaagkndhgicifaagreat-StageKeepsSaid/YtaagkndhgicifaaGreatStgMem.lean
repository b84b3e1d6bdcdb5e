/- DERIVED. Entries in memory; rows of packages that stand apart; what Fix keeps while it goes on. No walk. -/
import Derived.Test.YtaagkndhgicifaaGreatSv12
import Derived.Test.YtaagkndhgicifaaGreatSw2
namespace Go.Proofs.YtaagkndhgicifaaGreat
open Go.RowKit
set_option linter.unusedVariables false
set_option maxRecDepth 100000
abbrev EV := Ent × (Option Addr × Nat)
def withV (p : EV) : Value := .slice p.2.1 p.1.choice.2.length p.2.2
def entL (p : EV) : List Value := [strV p.1.pkg.1, .int .i64 p.1.pkg.2.1, .int .i64 p.1.pkg.2.2.1, .int .i64 p.1.pkg.2.2.2, .int .i64 p.1.stage, strV p.1.choice.1.1, .int .i64 p.1.choice.1.2.1, .int .i64 p.1.choice.1.2.2.1, .int .i64 p.1.choice.1.2.2.2, withV p]
theorem entL_len (p : EV) : (entL p).length = 10 := rfl
theorem entL_one (p : EV) : ∀ v ∈ entL p, v.oneCell' = true := by
 intro v hv
 simp only [entL, List.mem_cons, List.not_mem_nil, or_false] at hv
 rcases hv with rfl | rfl | rfl | rfl | rfl | rfl | rfl | rfl | rfl | rfl <;> rfl
theorem infoEnt : (Tryz.prog.info? 45).map (fun i => (i.zero, i.size, i.bytes)) = some (some (.agg #[.string ByteArray.empty, .int .i64 0, .int .i64 0, .int .i64 0, .int .i64 0, .string ByteArray.empty, .int .i64 0, .int .i64 0, .int .i64 0, .slice none 0 0]), 10, 112) := by kernel_rfl
def EntsAt (Z : Zone) (w : World) (v : Value) (es : List EV) : Prop := ∃ a c, v = .slice a es.length c ∧ Bnd es.length c a ∧
 (es ≠ [] → ∃ b o, a = some ⟨b, o, none⟩ ∧ Z b ∧ b < w.heap.size ∧ ∀ i x, es[i]? = some x → PkgsAt Z w (withV x) x.1.choice.2 ∧ ∀ j u, (entL x)[j]? = some u → w.cell? ⟨b, o + i * 10 + j, none⟩ = some u)
theorem EntsAt.keep {Z Z' : Zone} {w w' : World} (hk : Keep Z Z' w w') {v : Value} {es : List EV} (h : EntsAt Z w v es) : EntsAt Z' w' v es := by
 obtain ⟨a, c, h1, h2, h3⟩ := h
 refine ⟨a, c, h1, h2, fun hne => ?_⟩
 obtain ⟨b, o, e, hz, hl, hc⟩ := h3 hne
 refine ⟨b, o, e, hk.zone b hl hz, Nat.lt_of_lt_of_le hl hk.size, fun i x hi => ⟨((hc i x hi).1).keep hk, fun j u hj => hk.cell _ _ hz ((hc i x hi).2 j u hj)⟩⟩
theorem EntsAt.below {Z : Zone} {w w' : World} {v : Value} {es : List EV} (h : EntsAt Z w v es) (hb : Below w.heap.size w w') : EntsAt Z w' v es := h.keep (Keep.below hb)
theorem EntsAt.all {Z : Zone} {w : World} {v : Value} {es : List EV} (h : EntsAt Z w v es) : EntsAt zAll w v es := h.keep ⟨fun _ _ _ => trivial, Nat.le_refl _, fun _ _ _ h => h⟩
theorem EntsAt.nil {Z : Zone} {w : World} : EntsAt Z w (.slice none 0 0) [] := ⟨none, 0, rfl, ⟨Nat.le_refl _, by simp, by unfold maxLen; omega, fun _ => ⟨rfl, rfl⟩⟩, fun h => absurd rfl h⟩
theorem PkgsAt.nil {Z : Zone} {w : World} : PkgsAt Z w (.slice none 0 0) [] := ⟨none, 0, rfl, ⟨Nat.le_refl _, by simp, by unfold maxLen; omega, fun _ => ⟨rfl, rfl⟩⟩, fun h => absurd rfl h⟩
theorem EntsAt.cells {Z : Zone} {w : World} {a : Option Addr} {n c k : Nat} {es : List EV} {x : EV} (h : EntsAt Z w (.slice a n c) es) (hk : es[k]? = some x) : ∃ (b o : Nat) (S T : ByteArray), a = some ⟨b, o, none⟩ ∧ strV x.1.pkg.1 = .string S ∧ strV x.1.choice.1.1 = .string T ∧ PkgsAt Z w (.slice x.2.1 x.1.choice.2.length x.2.2) x.1.choice.2 ∧
  w.cell? ⟨b, o + k * 10, none⟩ = some (.string S) ∧ w.cell? ⟨b, o + k * 10 + 1, none⟩ = some (.int .i64 x.1.pkg.2.1) ∧ w.cell? ⟨b, o + k * 10 + 2, none⟩ = some (.int .i64 x.1.pkg.2.2.1) ∧ w.cell? ⟨b, o + k * 10 + 3, none⟩ = some (.int .i64 x.1.pkg.2.2.2) ∧ w.cell? ⟨b, o + k * 10 + 4, none⟩ = some (.int .i64 x.1.stage) ∧
  w.cell? ⟨b, o + k * 10 + 5, none⟩ = some (.string T) ∧ w.cell? ⟨b, o + k * 10 + 6, none⟩ = some (.int .i64 x.1.choice.1.2.1) ∧ w.cell? ⟨b, o + k * 10 + 7, none⟩ = some (.int .i64 x.1.choice.1.2.2.1) ∧ w.cell? ⟨b, o + k * 10 + 8, none⟩ = some (.int .i64 x.1.choice.1.2.2.2) ∧ w.cell? ⟨b, o + k * 10 + 9, none⟩ = some (.slice x.2.1 x.1.choice.2.length x.2.2) := by
 obtain ⟨a', c', e, -, h3⟩ := h
 obtain ⟨rfl, rfl, rfl⟩ := Value.slice.inj e
 obtain ⟨b, o, rfl, -, -, hc⟩ := h3 (fun e => by rw [e] at hk; cases hk)
 obtain ⟨h4, h5⟩ := hc k x hk
 obtain ⟨S, -, hS, -, -⟩ := strV_is x.1.pkg.1
 obtain ⟨T, -, hT, -, -⟩ := strV_is x.1.choice.1.1
 exact ⟨b, o, S, T, rfl, hS, hT, h4, by rw [← hS]; exact h5 0 _ rfl, h5 1 _ rfl, h5 2 _ rfl, h5 3 _ rfl, h5 4 _ rfl, by rw [← hT]; exact h5 5 _ rfl, h5 6 _ rfl, h5 7 _ rfl, h5 8 _ rfl, h5 9 _ rfl⟩
theorem EntsAt.len {Z : Zone} {w : World} {a : Option Addr} {n c : Nat} {es : List EV} (h : EntsAt Z w (.slice a n c) es) : n = es.length := by
 obtain ⟨a', c', e, -⟩ := h
 exact (Value.slice.inj e).2.1
theorem PkgsAt.len {Z : Zone} {w : World} {a : Option Addr} {n c : Nat} {ps : List Pk} (h : PkgsAt Z w (.slice a n c) ps) : n = ps.length := by
 obtain ⟨a', c', e, -⟩ := h
 exact (Value.slice.inj e).2.1
structure StgAt (Z : Zone) (w : World) (T : Nat) (es : List EV) (l : List Pk) (m : Int) : Prop where
 zone : Z T
 few : es.length ≤ 100000 ∧ l.length ≤ 100000 ∧ ∀ x ∈ es, x.1.choice.2.length ≤ 100000
 cells : ∃ aL cL al cl, w.cell? ⟨T, 0, none⟩ = some (.slice aL es.length cL) ∧ w.cell? ⟨T, 1, none⟩ = some (.int .i64 m) ∧ w.cell? ⟨T, 2, none⟩ = some (.slice al l.length cl) ∧ EntsAt Z w (.slice aL es.length cL) es ∧ PkgsAt Z w (.slice al l.length cl) l
theorem StgAt.keep {Z Z' : Zone} {w w' : World} (hk : Keep Z Z' w w') {T : Nat} {es : List EV} {l : List Pk} {m : Int} (h : StgAt Z w T es l m) : StgAt Z' w' T es l m := by
 obtain ⟨hz, hw, aL, cL, al, cl, h1, h2, h3, h4, h5⟩ := h
 exact ⟨hk.zone T (cell_lt h1) hz, hw, aL, cL, al, cl, hk.cell _ _ hz h1, hk.cell _ _ hz h2, hk.cell _ _ hz h3, h4.keep hk, h5.keep hk⟩
theorem StgAt.below {Z : Zone} {w w' : World} {T : Nat} {es : List EV} {l : List Pk} {m : Int} (h : StgAt Z w T es l m) (hb : Below w.heap.size w w') : StgAt Z w' T es l m := h.keep (Keep.below hb)
theorem StgAt.all {Z : Zone} {w : World} {T : Nat} {es : List EV} {l : List Pk} {m : Int} (h : StgAt Z w T es l m) : StgAt zAll w T es l m := h.keep ⟨fun _ _ _ => trivial, Nat.le_refl _, fun _ _ _ h => h⟩
theorem ownsC_mono {w : World} {base base' : Nat} {e : TypeId} {size : Nat} {v : Value} {n : Nat} {xs : List Value} (h : ownsC w base e size v n xs) (hb : base' ≤ base) : ownsC w base' e size v n xs := by
 refine ⟨h.1, ?_⟩
 rcases h.2 with h2 | ⟨g, cap, cur, h1, h2, h3⟩
 ·exact .inl h2
 ·exact .inr ⟨g, cap, cur, h1, Nat.le_trans hb h2, h3⟩
def KT (T : TypeId) (A B : World) : Prop := ∀ (b : Nat) (c : Array Value) (f : Nat × Nat), A.heap[b]? = some (.cells c T f) → B.heap[b]? = some (.cells c T f)
theorem KP.kt {T T' : TypeId} {A B : World} (h : KP T' A B) (ht : T ≠ T') : KT T A B := fun b c f hb => h b c T f ht hb
theorem KT.below {T : TypeId} {A B : World} (h : Below A.heap.size A B) : KT T A B := fun b c f hb => (h.block b (loh hb)).trans hb
theorem KT.trans {T : TypeId} {A B C : World} (h : KT T A B) (g : KT T B C) : KT T A C := fun b c f hb => g b c f (h b c f hb)
theorem KP.set {T : TypeId} {A : World} {b i : Nat} {c : Array Value} {f : Nat × Nat} {v : Value} (h : A.heap[b]? = some (.cells c T f)) : KP T A (A.setCell ⟨b, i, none⟩ v) := fun k c' t f' ht hk =>
 (bHs _ _ _ k (fun e => by subst e; rw [h] at hk; exact ht ((Obj.cells.inj (sIj hk)).2.1).symm)).trans hk
theorem KT.owns {T : TypeId} {A B : World} {base sz n : Nat} {v : Value} {xs : List Value} (h : KT T A B) (ho : ownsC A base T sz v n xs) : ownsC B base T sz v n xs :=
 ownsC_keep ho (fun g hg => by
  obtain ⟨_, cur, hc⟩ := oCk ho hg
  exact (h g _ _ hc).trans hc.symm)
theorem kp_turn {A C : World} {row : Option Nat} {D : Nat} (hg : A.grownBy C row) (hr : ∀ r, row = some r → D ≤ r ∧ ∃ o : Obj, A.heap[r]? = some o ∧ o.isCells = false) {b : Nat} {c : Array Value} {t : TypeId} {f : Nat × Nat} (h : A.heap[b]? = some (.cells c t f)) : C.heap[b]? = some (.cells c t f) :=
 (hg.block b (loh h) (fun e => by
  obtain ⟨_, o, ho, hc⟩ := hr b e.symm
  rw [h] at ho
  obtain rfl := sIj ho
  cases hc)).trans h
def PRow (base : Nat) (w : World) (r : Value × List Pk) : Prop := ownsC w base 41 4 r.1 r.2.length (r.2.flatMap pkL)
def apart (u v : Value) : Prop := ∀ g, u.ownBlock = some g → v.ownBlock ≠ some g
theorem apart.symm {u v : Value} (h : apart u v) : apart v u := fun g hg e => h g e hg
structure PRows (base : Nat) (w : World) (rs : List (Value × List Pk)) : Prop where
 own : ∀ r ∈ rs, PRow base w r
 sep : rs.Pairwise fun r s => apart r.1 s.1
theorem PRow.lt {base : Nat} {w : World} {r : Value × List Pk} (h : PRow base w r) {g : Nat} (hg : r.1.ownBlock = some g) : base ≤ g ∧ g < w.heap.size := by
 obtain ⟨h1, cur, hc⟩ := oCk h hg
 exact ⟨h1, loh hc⟩
theorem PRow.nil (base : Nat) (w : World) : PRow base w (.slice none 0 0, []) := ownsC_nil _ _ _ _
theorem PRows.nil (base : Nat) (w : World) : PRows base w [] := ⟨fun r h => (by cases h), List.Pairwise.nil⟩
theorem PRows.kt {base : Nat} {A B : World} {rs : List (Value × List Pk)} (h : PRows base A rs) (k : KT 41 A B) : PRows base B rs := ⟨fun r hr => k.owns (h.own r hr), h.sep⟩
theorem PRows.below {base : Nat} {A B : World} {rs : List (Value × List Pk)} (h : PRows base A rs) (hb : Below A.heap.size A B) : PRows base B rs := h.kt (KT.below hb)
theorem PRows.perm {base : Nat} {w : World} {rs rs' : List (Value × List Pk)} (h : PRows base w rs) (hp : rs.Perm rs') : PRows base w rs' :=
 ⟨fun r hr => h.own r (hp.mem_iff.2 hr), (hp.pairwise_iff (fun h => h.symm)).1 h.sep⟩
theorem PRows.sub {base : Nat} {w : World} {rs rs' : List (Value × List Pk)} (h : PRows base w rs) (hs : rs'.Sublist rs) : PRows base w rs' :=
 ⟨fun r hr => h.own r (hs.subset hr), h.sep.sublist hs⟩
theorem PRows.cons {base : Nat} {w : World} {rs : List (Value × List Pk)} {r : Value × List Pk} (h : PRows base w rs) (hr : PRow base w r) (ha : ∀ s ∈ rs, apart r.1 s.1) : PRows base w (r :: rs) :=
 ⟨fun s hs => by rcases List.mem_cons.1 hs with rfl | hs; exact hr; exact h.own s hs, List.pairwise_cons.2 ⟨ha, h.sep⟩⟩
theorem PRows.consNil {base : Nat} {w : World} {rs : List (Value × List Pk)} (h : PRows base w rs) : PRows base w ((.slice none 0 0, []) :: rs) := h.cons (PRow.nil _ _) (fun s _ g hg => by cases hg)
theorem PRows.new {base : Nat} {A w : World} {rs : List (Value × List Pk)} {r : Value × List Pk} (h : PRows base A rs) (hk : KT 41 A w) (hr : PRow base w r) (hn : ∀ g, r.1.ownBlock = some g → A.heap.size ≤ g) : PRows base w (r :: rs) :=
 (h.kt hk).cons hr (fun s hs g hg e => by have := hn g hg; have := ((h.own s hs).lt e).2; omega)
theorem PRows.push {base : Nat} {w w' : World} {rs : List (Value × List Pk)} {v v' : Value} {L L' : List Pk} (h : PRows base w ((v, L) :: rs)) (hg : w.grownBy w' v.ownBlock) (hr : PRow base w' (v', L')) (hn : v'.ownBlock = v.ownBlock ∨ v'.ownBlock = some w.heap.size) : PRows base w' ((v', L') :: rs) := by
 obtain ⟨ha, hs⟩ := List.pairwise_cons.1 h.sep
 have ho : ∀ s ∈ rs, PRow base w s := fun s hs => h.own s (mCm _ hs)
 refine ⟨fun s hs => ?_, List.pairwise_cons.2 ⟨fun s hs g hg' e => ?_, hs⟩⟩
 ·rcases List.mem_cons.1 hs with rfl | hs
  ·exact hr
  ·exact ownsC_keep (ho s hs) (fun g hg' => hg.block g ((ho s hs).lt hg').2 (fun e => ha s hs g e.symm hg'))
 ·rcases hn with hn | hn
  ·exact ha s hs g (hn ▸ hg') e
  ·have h1 := ((ho s hs).lt e).2
   have h2 : w.heap.size = g := sIj (hn.symm.trans hg')
   omega
theorem box_row {base : Nat} {w : World} {b : Nat} {q : Pk} (hb : base ≤ b) (h : w.heap[b]? = some (.cells (pkL q).toArray 41 (0, 0))) : PRow base w (.slice (some ⟨b, 0, none⟩) 1 1, [q]) :=
 ⟨by rfl, .inr ⟨b, 1, _, rfl, hb, h, Nat.le_refl _, by unfold maxLen; omega, by simp [pkL], by simp [pkL]⟩⟩
def withR (p : EV) : Value × List Pk := (withV p, p.1.choice.2)
def XFix (n0 : Nat) (k : Nat) (o : Obj) : Prop := n0 ≤ k ∧ ∃ c t f, o = .cells c t f ∧ (t = 96 ∨ t = 45 ∨ t = 41 ∨ t = 22)
theorem xfix_row {n0 : Nat} {T : TypeId} (h1 : T ≠ 96) (h2 : T ≠ 45) (h3 : T ≠ 41) (h4 : T ≠ 22) (b : Nat) (c : Array Value) (f : Nat × Nat) : ¬ XFix n0 b (.cells c T f) := by
 rintro ⟨_, c', t', f', e, ht⟩
 obtain ⟨rfl, rfl, rfl⟩ := Obj.cells.inj e
 rcases ht with h | h | h | h
 ·exact h1 h
 ·exact h2 h
 ·exact h3 h
 ·exact h4 h
structure Fx (w V0 V : World) (b2 b6 b7 Tb B : Nat) (x0 x1 x2 xp vL : Value) (es : List EV) (rs : List (Value × List Pk)) : Prop where
 c2 : V.heap[b2]? = some (.cells #[.pointer (some ⟨B, 0, none⟩)] 27 (0, 0))
 c6 : V.heap[b6]? = some (.cells #[.pointer (some ⟨Tb, 0, none⟩)] 31 (0, 0))
 c7 : V.heap[b7]? = some (.cells #[xp] 22 (0, 0))
 cT : V.heap[Tb]? = some (.cells #[x0, x1, x2] 96 (0, 0))
 list : ownsC V w.heap.size 45 10 vL es.length (es.flatMap entL)
 rows : PRows w.heap.size V rs
 bel : Below w.heap.size w V
 new : w.heap.size ≤ b7 ∧ w.heap.size ≤ Tb
 ox : OnlyX (XFix w.heap.size) V0 V
variable {w V0 V W : World} {b2 b6 b7 Tb B : Nat} {x0 x1 x2 xp vL vL' v v' : Value} {es es' : List EV} {rs rs' : List (Value × List Pk)} {L L' : List Pk}
theorem Fx.below (h : Fx w V0 V b2 b6 b7 Tb B x0 x1 x2 xp vL es rs) (hb : Below V.heap.size V W) : Fx w V0 W b2 b6 b7 Tb B x0 x1 x2 xp vL es rs :=
 ⟨(hb.block _ (loh h.c2)).trans h.c2, (hb.block _ (loh h.c6)).trans h.c6, (hb.block _ (loh h.c7)).trans h.c7, (hb.block _ (loh h.cT)).trans h.cT, ownsC_below h.list hb, h.rows.below hb, h.bel.trans (hb.mono h.bel.size), h.new, h.ox.trans (OnlyX.of_below hb)⟩
theorem Fx.rows' (h : Fx w V0 V b2 b6 b7 Tb B x0 x1 x2 xp vL es rs) (hr : PRows w.heap.size V rs') : Fx w V0 V b2 b6 b7 Tb B x0 x1 x2 xp vL es rs' := ⟨h.c2, h.c6, h.c7, h.cT, h.list, hr, h.bel, h.new, h.ox⟩
theorem Fx.list' (h : Fx w V0 V b2 b6 b7 Tb B x0 x1 x2 xp vL es rs) (hg : V.grownBy W vL.ownBlock) (ho : ownsC W w.heap.size 45 10 vL' es'.length (es'.flatMap entL)) : Fx w V0 W b2 b6 b7 Tb B x0 x1 x2 xp vL' es' rs := by
 have hk : KP 45 V W := KP.grown hg h.list
 exact ⟨hk _ _ _ _ (by decide) h.c2, hk _ _ _ _ (by decide) h.c6, hk _ _ _ _ (by decide) h.c7, hk _ _ _ _ (by decide) h.cT, ho, h.rows.kt (hk.kt (by decide)), h.bel.grown hg h.bel.size (fun k e => (oCk h.list e).1), h.new, h.ox.trans (OnlyX.of_grown hg (fun g o' e ho => by
  obtain ⟨hb, cur, hc⟩ := oCk h.list e
  rw [hc] at ho
  obtain rfl := sIj ho
  exact ⟨rfl, hb, _, _, _, rfl, .inr (.inl rfl)⟩))⟩
theorem Fx.push (h : Fx w V0 V b2 b6 b7 Tb B x0 x1 x2 xp vL es ((v, L) :: rs)) (hg : V.grownBy W v.ownBlock) (hr : PRow w.heap.size W (v', L')) (hn : v'.ownBlock = v.ownBlock ∨ v'.ownBlock = some V.heap.size) : Fx w V0 W b2 b6 b7 Tb B x0 x1 x2 xp vL es ((v', L') :: rs) := by
 have h0 : PRow w.heap.size V (v, L) := h.rows.own _ (mCs ..)
 have hk : KP 41 V W := KP.grown hg h0
 exact ⟨hk _ _ _ _ (by decide) h.c2, hk _ _ _ _ (by decide) h.c6, hk _ _ _ _ (by decide) h.c7, hk _ _ _ _ (by decide) h.cT, hk.owns (by decide) h.list, h.rows.push hg hr hn, h.bel.grown hg h.bel.size (fun k e => (h0.lt e).1), h.new, h.ox.trans (OnlyX.of_grown hg (fun g o' e ho => by
  obtain ⟨hb, cur, hc⟩ := oCk h0 e
  rw [hc] at ho
  obtain rfl := sIj ho
  exact ⟨rfl, hb, _, _, _, rfl, .inr (.inr (.inl rfl))⟩))⟩
theorem Fx.base (h : Fx w V0 V b2 b6 b7 Tb B x0 x1 x2 xp vL es rs) : Fx w V V b2 b6 b7 Tb B x0 x1 x2 xp vL es rs := ⟨h.c2, h.c6, h.c7, h.cT, h.list, h.rows, h.bel, h.new, OnlyX.refl _ _⟩
theorem Fx.listPush {n : Nat} {x : EV} (h : Fx w V0 V b2 b6 b7 Tb B x0 x1 x2 xp vL es rs) (hn : es.length = n) (hg : V.grownBy W vL.ownBlock) (ho : ownsC W w.heap.size 45 10 vL' (n + 1) (es.flatMap entL ++ entL x)) : Fx w V0 W b2 b6 b7 Tb B x0 x1 x2 xp vL' (es ++ [x]) rs :=
 h.list' hg (by rw [lAp, lSg, hn, List.flatMap_append, List.flatMap_singleton]; exact ho)
theorem Fx.rowPush {n : Nat} {q : Pk} (h : Fx w V0 V b2 b6 b7 Tb B x0 x1 x2 xp vL es ((v, L) :: rs)) (hn : L.length = n) (hg : V.grownBy W v.ownBlock) (ho : ownsC W w.heap.size 41 4 v' (n + 1) (L.flatMap pkL ++ pkL q)) (hw : v'.ownBlock = v.ownBlock ∨ v'.ownBlock = some V.heap.size) : Fx w V0 W b2 b6 b7 Tb B x0 x1 x2 xp vL es ((v', L ++ [q]) :: rs) :=
 h.push hg (by show ownsC _ _ _ _ v' _ _; rw [lAp, lSg, hn, List.flatMap_append, List.flatMap_singleton]; exact ho) hw
theorem Fx.rowApp {n m : Nat} {M : List Pk} (h : Fx w V0 V b2 b6 b7 Tb B x0 x1 x2 xp vL es ((v, L) :: rs)) (hn : L.length = n) (hm : M.length = m) (hg : V.grownBy W v.ownBlock) (ho : ownsC W w.heap.size 41 4 v' (n + m) (L.flatMap pkL ++ M.flatMap pkL)) (hw : v'.ownBlock = v.ownBlock ∨ v'.ownBlock = some V.heap.size) : Fx w V0 W b2 b6 b7 Tb B x0 x1 x2 xp vL es ((v', L ++ M) :: rs) :=
 h.push hg (by show ownsC _ _ _ _ v' _ _; rw [lAp, hn, hm, List.flatMap_append]; exact ho) hw
theorem Fx.setT (h : Fx w V0 V b2 b6 b7 Tb B x0 x1 x2 xp vL es rs) (i : Nat) (u : Value) {y0 y1 y2 : Value} (hy : (#[x0, x1, x2] : Array Value).setIfInBounds i u = #[y0, y1, y2]) : Fx w V0 (V.setCell ⟨Tb, i, none⟩ u) b2 b6 b7 Tb B y0 y1 y2 xp vL es rs := by
 have hk : KP 96 V (V.setCell ⟨Tb, i, none⟩ u) := KP.set h.cT
 have hs := heap_setCell_here (i := i) u h.cT
 rw [hy] at hs
 exact ⟨hk _ _ _ _ (by decide) h.c2, hk _ _ _ _ (by decide) h.c6, hk _ _ _ _ (by decide) h.c7, hs, hk.owns (by decide) h.list, h.rows.kt (hk.kt (by decide)), h.bel.setCell (p := ⟨Tb, i, none⟩) h.new.2 u, h.new, h.ox.trans (OnlyX.set h.cT rfl ⟨h.new.2, _, _, _, rfl, .inl rfl⟩)⟩
theorem Fx.setP (h : Fx w V0 V b2 b6 b7 Tb B x0 x1 x2 xp vL es rs) (u : Value) : Fx w V0 (V.setCell ⟨b7, 0, none⟩ u) b2 b6 b7 Tb B x0 x1 x2 u vL es rs := by
 have hk : KP 22 V (V.setCell ⟨b7, 0, none⟩ u) := KP.set h.c7
 exact ⟨hk _ _ _ _ (by decide) h.c2, hk _ _ _ _ (by decide) h.c6, heap_setCell_here (i := 0) u h.c7, hk _ _ _ _ (by decide) h.cT, hk.owns (by decide) h.list, h.rows.kt (hk.kt (by decide)), h.bel.setCell (p := ⟨b7, 0, none⟩) h.new.1 u, h.new, h.ox.trans (OnlyX.set h.c7 rfl ⟨h.new.1, _, _, _, rfl, .inr (.inr (.inr rfl))⟩)⟩
theorem Fx.turn {row : Option Nat} {D : Nat} (h : Fx w V0 V b2 b6 b7 Tb B x0 x1 x2 xp vL es rs) (hD : w.heap.size ≤ D) (hg : V.grownBy W row) (hr : ∀ r, row = some r → D ≤ r ∧ ∃ o : Obj, V.heap[r]? = some o ∧ o.isCells = false) : Fx w W W b2 b6 b7 Tb B x0 x1 x2 xp vL es rs :=
 ⟨kp_turn hg hr h.c2, kp_turn hg hr h.c6, kp_turn hg hr h.c7, kp_turn hg hr h.cT, KT.owns (fun b c f hb => kp_turn hg hr hb) h.list, h.rows.kt (fun b c f hb => kp_turn hg hr hb), h.bel.grown hg h.bel.size (fun k e => Nat.le_trans hD (hr k e).1), h.new, OnlyX.refl _ _⟩
theorem PRow.at {base : Nat} {r : Value × List Pk} (h : PRow base V r) (hm : r.2.length ≤ 8796093022208) : PkgsAt (zNew base) V r.1 r.2 := by
 rcases h.2 with ⟨e, e2⟩ | ⟨g, cap, cur, e, hb, hg, h1, h2, h3, h4⟩
 ·rw [e]
  have : r.2 = [] := eN0 e2
  rw [this]
  exact PkgsAt.nil
 ·refine ⟨some ⟨g, 0, none⟩, cap, e, ⟨h1, hm, h2, fun e => by cases e⟩, fun _ => ⟨g, 0, rfl, hb, loh hg, fun i p hi j u hj => ?_⟩⟩
  have hc := ownsC_cells h (g := g) (by rw [e]; rfl)
  refine hc _ _ ?_
  have h4 : j < 4 := by have := (gEs.1 hj).1; rwa [pkL_len] at this
  rw [Nat.zero_add, flat_at pkL_len r.2 i p hi j h4]
  exact hj
theorem ents_own {base : Nat} {v : Value} (h : ownsC V base 45 10 v es.length (es.flatMap entL)) (hm : es.length ≤ 8796093022208) (hw : ∀ x ∈ es, PkgsAt (zNew base) V (withV x) x.1.choice.2) : EntsAt (zNew base) V v es := by
 rcases h.2 with ⟨e, e2⟩ | ⟨g, cap, cur, e, hb, hg, h1, h2, h3, h4⟩
 ·rw [e]
  have : es = [] := eN0 e2
  rw [this]
  exact EntsAt.nil
 ·refine ⟨some ⟨g, 0, none⟩, cap, e, ⟨h1, hm, h2, fun e => by cases e⟩, fun _ => ⟨g, 0, rfl, hb, loh hg, fun i p hi => ⟨hw p (List.mem_of_getElem? hi), fun j u hj => ?_⟩⟩⟩
  have hc := ownsC_cells h (g := g) (by rw [e]; rfl)
  refine hc _ _ ?_
  have h4 : j < 10 := by have := (gEs.1 hj).1; rwa [entL_len] at this
  rw [Nat.zero_add, flat_at entL_len es i p hi j h4]
  exact hj
theorem Fx.stages {m : Int} {aL al : Option Addr} {cL cl : Nat} {l : List Pk} (h : Fx w V0 V b2 b6 b7 Tb B (.slice aL es.length cL) (.int .i64 m) (.slice al l.length cl) xp (.slice aL es.length cL) es rs) (hl : (.slice al l.length cl, l) ∈ rs) (hw : ∀ x ∈ es, withR x ∈ rs) (hm : es.length ≤ 100000 ∧ l.length ≤ 100000) (hm2 : ∀ x ∈ es, x.1.choice.2.length ≤ 100000) : StgAt (zNew w.heap.size) V Tb es l m :=
 ⟨h.new.2, ⟨hm.1, hm.2, hm2⟩, aL, cL, al, cl, cOh h.cT 0, cOh h.cT 1, cOh h.cT 2, ents_own h.list (by omega) (fun x hx => (h.rows.own _ (hw x hx)).at (by have := hm2 x hx; show x.1.choice.2.length ≤ _; omega)), (h.rows.own _ hl).at (by show l.length ≤ _; omega)⟩
theorem src_ent {b : Nat} {x : EV} (h : V.heap[b]? = some (.cells (entL x).toArray 45 (0, 0))) : Src Tryz.prog 10 68 (.slice (some ⟨b, 0, none⟩) 1 1) 1 (entL x) V :=
 Src.ofSlice V Tryz.underlying68 ⟨b, 0, none⟩ 1 1 (entL x) rfl (fun j u hj => by rw [Addr.add_lit, Nat.zero_add, cOh h, ← Array.getElem?_toList]; exact hj) (entL_one x)
theorem src_pkb {b : Nat} {q : Pk} (h : V.heap[b]? = some (.cells (pkL q).toArray 41 (0, 0))) : Src Tryz.prog 4 22 (.slice (some ⟨b, 0, none⟩) 1 1) 1 (pkL q) V :=
 Src.ofSlice V Tryz.underlying22 ⟨b, 0, none⟩ 1 1 (pkL q) rfl (fun j u hj => by rw [Addr.add_lit, Nat.zero_add, cOh h, ← Array.getElem?_toList]; exact hj) (pkL_one q)
end Go.Proofs.YtaagkndhgicifaaGreat
