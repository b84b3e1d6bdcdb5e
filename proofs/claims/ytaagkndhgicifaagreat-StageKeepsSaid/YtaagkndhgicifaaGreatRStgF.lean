/- DERIVED. The reference's Fix of layer 16, walked. (Printed by rfixgen.py.) -/
import Derived.Test.YtaagkndhgicifaaGreatRStg
import Derived.Test.YtaagkndhgicifaaGreatStgFix
namespace Go.Proofs.YtaagkndhgicifaaGreat
open Go.RowKit Go.Shelf
set_option linter.unusedVariables false
set_option linter.unusedSimpArgs false
set_option maxRecDepth 100000
def zFr (b4 b6 : Nat) (vL : Value) (rs : List (Value × List Pk)) : Zone := fun b => b4 < b ∧ b ≠ b6 ∧ vL.ownBlock ≠ some b ∧ ∀ r ∈ rs, r.1.ownBlock ≠ some b
structure Fr (w V : World) (vs ys : Array Value) (b2 b4 b6 : Nat) (x0 x1 x2 vL : Value) (es : List EV) (rs : List (Value × List Pk)) : Prop where
 c2 : V.heap[b2]? = some (.cells vs 28 (0, 0))
 c4 : V.heap[b4]? = some (.cells ys 70 (0, 0))
 c6 : V.heap[b6]? = some (.cells #[x0, x1, x2] 70 (0, 0))
 list : ownsC V w.heap.size 45 10 vL es.length (es.flatMap entL)
 rows : PRows w.heap.size V rs
 with_ : ∀ x ∈ es, PkgsAt (zFr b4 b6 vL rs) V (withV x) x.1.choice.2
 bel : Below w.heap.size w V
 new : w.heap.size ≤ b6
 new4 : w.heap.size ≤ b4
 ne : b4 ≠ b6
variable {w V W : World} {vs ys : Array Value} {b2 b4 b6 : Nat} {x0 x1 x2 vL vL' v v' : Value} {es : List EV} {rs rs' : List (Value × List Pk)} {L : List Pk}
theorem Fr.below (h : Fr w V vs ys b2 b4 b6 x0 x1 x2 vL es rs) (hb : Below V.heap.size V W) : Fr w W vs ys b2 b4 b6 x0 x1 x2 vL es rs :=
 ⟨(hb.block _ (loh h.c2)).trans h.c2, (hb.block _ (loh h.c4)).trans h.c4, (hb.block _ (loh h.c6)).trans h.c6, ownsC_below h.list hb, h.rows.below hb, fun x hx => (h.with_ x hx).below hb, h.bel.trans (hb.mono h.bel.size), h.new, h.new4, h.ne⟩
theorem Fr.rows' (h : Fr w V vs ys b2 b4 b6 x0 x1 x2 vL es rs) (hr : PRows w.heap.size V rs') (hz : ∀ b, b < V.heap.size → (∀ r ∈ rs, r.1.ownBlock ≠ some b) → ∀ r ∈ rs', r.1.ownBlock ≠ some b) : Fr w V vs ys b2 b4 b6 x0 x1 x2 vL es rs' :=
 ⟨h.c2, h.c4, h.c6, h.list, hr, fun x hx => (h.with_ x hx).keep ⟨fun b hb hh => ⟨hh.1, hh.2.1, hh.2.2.1, hz b hb hh.2.2.2⟩, Nat.le_refl _, fun _ _ _ h => h⟩, h.bel, h.new, h.new4, h.ne⟩
theorem Fr.perm (h : Fr w V vs ys b2 b4 b6 x0 x1 x2 vL es rs) (hp : rs.Perm rs') : Fr w V vs ys b2 b4 b6 x0 x1 x2 vL es rs' := h.rows' (h.rows.perm hp) (fun b _ hh r hr => hh r (hp.mem_iff.2 hr))
theorem Fr.sub (h : Fr w V vs ys b2 b4 b6 x0 x1 x2 vL es rs) (hp : rs'.Sublist rs) : Fr w V vs ys b2 b4 b6 x0 x1 x2 vL es rs' := h.rows' (h.rows.sub hp) (fun b _ hh r hr => hh r (hp.subset hr))
theorem Fr.consNil (h : Fr w V vs ys b2 b4 b6 x0 x1 x2 vL es rs) : Fr w V vs ys b2 b4 b6 x0 x1 x2 vL es ((.slice none 0 0, []) :: rs) := h.rows' h.rows.consNil (fun b _ hh r hr => by
 rcases List.mem_cons.1 hr with rfl | hr
 ·intro e; cases e
 ·exact hh r hr)
theorem Fr.listPush {n : Nat} {x : EV} (h : Fr w V vs ys b2 b4 b6 x0 x1 x2 vL es rs) (hn : es.length = n) (hg : V.grownBy W vL.ownBlock) (ho : ownsC W w.heap.size 45 10 vL' (n + 1) (es.flatMap entL ++ entL x)) (hw : vL'.ownBlock = vL.ownBlock ∨ vL'.ownBlock = some V.heap.size) (hx : PkgsAt (zFr b4 b6 vL rs) V (withV x) x.1.choice.2) : Fr w W vs ys b2 b4 b6 x0 x1 x2 vL' (es ++ [x]) rs := by
 have hk : KP 45 V W := KP.grown hg h.list
 have hkz : Keep (zFr b4 b6 vL rs) (zFr b4 b6 vL' rs) V W := Keep.of_block (fun b hb hz => ⟨hz.1, hz.2.1, fun e => by
  rcases hw with hw | hw
  ·exact hz.2.2.1 (hw ▸ e)
  ·have : V.heap.size = b := sIj (hw.symm.trans e)
   omega, hz.2.2.2⟩) hg.size (fun b hb hz => hg.block b hb (fun e => hz.2.2.1 e.symm))
 refine ⟨hk _ _ _ _ (by decide) h.c2, hk _ _ _ _ (by decide) h.c4, hk _ _ _ _ (by decide) h.c6, ?_, h.rows.kt (hk.kt (by decide)), fun y hy => ?_, h.bel.grown hg h.bel.size (fun k e => (oCk h.list e).1), h.new, h.new4, h.ne⟩
 ·rw [lAp, lSg, hn, List.flatMap_append, List.flatMap_singleton]; exact ho
 ·rcases List.mem_append.1 hy with hy | hy
  ·exact (h.with_ y hy).keep hkz
  ·rw [mSg.1 hy]; exact hx.keep hkz
theorem Fr.rowPush {n : Nat} {q : Pk} (h : Fr w V vs ys b2 b4 b6 x0 x1 x2 vL es ((v, L) :: rs)) (hn : L.length = n) (hg : V.grownBy W v.ownBlock) (ho : ownsC W w.heap.size 41 4 v' (n + 1) (L.flatMap pkL ++ pkL q)) (hw : v'.ownBlock = v.ownBlock ∨ v'.ownBlock = some V.heap.size) : Fr w W vs ys b2 b4 b6 x0 x1 x2 vL es ((v', L ++ [q]) :: rs) := by
 have h0 : PRow w.heap.size V (v, L) := h.rows.own _ (mCs ..)
 have hk : KP 41 V W := KP.grown hg h0
 have hr : PRow w.heap.size W (v', L ++ [q]) := by show ownsC _ _ _ _ v' _ _; rw [lAp, lSg, hn, List.flatMap_append, List.flatMap_singleton]; exact ho
 refine ⟨hk _ _ _ _ (by decide) h.c2, hk _ _ _ _ (by decide) h.c4, hk _ _ _ _ (by decide) h.c6, hk.owns (by decide) h.list, h.rows.push hg hr hw, fun y hy => (h.with_ y hy).keep (Keep.of_block (fun b hb hz => ⟨hz.1, hz.2.1, hz.2.2.1, fun s hs => ?_⟩) hg.size (fun b hb hz => hg.block b hb (fun e => hz.2.2.2 _ (mCs ..) e.symm))), h.bel.grown hg h.bel.size (fun k e => (h0.lt e).1), h.new, h.new4, h.ne⟩
 rcases List.mem_cons.1 hs with rfl | hs
 ·intro e
  rcases hw with hw | hw
  ·exact hz.2.2.2 _ (mCs ..) (hw ▸ e)
  ·have : V.heap.size = b := sIj (hw.symm.trans e)
   omega
 ·exact hz.2.2.2 s (mCm _ hs)
theorem Fr.setT (h : Fr w V vs ys b2 b4 b6 x0 x1 x2 vL es rs) (i : Nat) (u : Value) {y0 y1 y2 : Value} (hy : (#[x0, x1, x2] : Array Value).setIfInBounds i u = #[y0, y1, y2]) : Fr w (V.setCell ⟨b6, i, none⟩ u) vs ys b2 b4 b6 y0 y1 y2 vL es rs := by
 have hk : KP 70 V (V.setCell ⟨b6, i, none⟩ u) := KP.set h.c6
 have hs := heap_setCell_here (i := i) u h.c6
 rw [hy] at hs
 exact ⟨hk _ _ _ _ (by decide) h.c2, (bHs _ _ _ b4 h.ne).trans h.c4, hs, hk.owns (by decide) h.list, h.rows.kt (hk.kt (by decide)), fun x hx => (h.with_ x hx).keep (Keep.of_block (fun _ _ hz => hz) (by simp [World.setCell]) (fun b hb hz => bHs _ _ _ b hz.2.1)), h.bel.setCell (p := ⟨b6, i, none⟩) h.new u, h.new, h.new4, h.ne⟩
theorem Fr.zone (h : Fr w V vs ys b2 b4 b6 x0 x1 x2 vL es rs) {b : Nat} (hb : V.heap.size ≤ b) : zFr b4 b6 vL rs b := by
 refine ⟨?_, ?_, fun e => ?_, fun r hr e => ?_⟩
 ·have := loh h.c4; omega
 ·have := loh h.c6; omega
 ·obtain ⟨_, _, hc⟩ := oCk h.list e; have := loh hc; omega
 ·have := ((h.rows.own r hr).lt e).2; omega
theorem Fr.ents (h : Fr w V vs ys b2 b4 b6 x0 x1 x2 vL es rs) (hm : es.length ≤ 8796093022208) : EntsAt (zNew w.heap.size) V vL es := by
 rcases h.list.2 with ⟨e, e2⟩ | ⟨g, cap, cur, e, hb, hg, h1, h2, h3, h4⟩
 ·rw [e]
  have : es = [] := eN0 e2
  rw [this]
  exact EntsAt.nil
 ·refine ⟨some ⟨g, 0, none⟩, cap, e, ⟨h1, hm, h2, fun e => by cases e⟩, fun _ => ⟨g, 0, rfl, hb, loh hg, fun i p hi => ⟨(h.with_ p (List.mem_of_getElem? hi)).keep ⟨fun b _ hz => Nat.le_of_lt (Nat.lt_of_le_of_lt h.new4 hz.1), Nat.le_refl _, fun _ _ _ h => h⟩, fun j u hj => ?_⟩⟩⟩
  have hc := ownsC_cells h.list (g := g) (by rw [e]; rfl)
  refine hc _ _ ?_
  have h4 : j < 10 := by have := (gEs.1 hj).1; rwa [entL_len] at this
  rw [Nat.zero_add, flat_at entL_len es i p hi j h4]
  exact hj
end Go.Proofs.YtaagkndhgicifaaGreat
