/- DERIVED. Entries of the caller's own in memory: what both plans' walks share. No walk. -/
import Derived.Test.YtaagkndhgicifaaGreatStgLw
import Derived.Test.YtaagkndhgicifaaGreatRStgF
import Derived.Test.YtaagkndhgicifaaGreatPlnLaw
namespace Go.Proofs.YtaagkndhgicifaaGreat
open Go.RowKit Go.Shelf
set_option linter.unusedVariables false
set_option linter.unusedSimpArgs false
set_option maxRecDepth 100000
instance entDecEq : DecidableEq Ent := fun x y => decidable_of_iff (entEq x y = true) entEq_iff
theorem getE_is (L : List Ent) (p : Pk) : (getE L p).2 = decide (p ∈ L.map Ent.pkg) := by
 unfold getE
 cases hf : L.find? (fun x => decide (x.pkg = p)) with
 | none =>
  refine (decide_eq_false (fun hm => ?_)).symm
  obtain ⟨x, hx, hxp⟩ := List.mem_map.1 hm
  have := List.find?_eq_none.1 hf x hx
  simp at this
  exact this hxp
 | some x => exact (decide_eq_true (List.mem_map.2 ⟨x, List.mem_of_find?_eq_some hf, by simpa using List.find?_some hf⟩)).symm
theorem getE_yes {L : List Ent} {p : Pk} (h : p ∈ L.map Ent.pkg) : ∃ x, x ∈ L ∧ x.pkg = p ∧ getE L p = (x, true) := by
 unfold getE
 cases hf : L.find? (fun x => decide (x.pkg = p)) with
 | none =>
  obtain ⟨x, hx, hxp⟩ := List.mem_map.1 h
  have := List.find?_eq_none.1 hf x hx
  simp at this
  exact absurd hxp this
 | some x => exact ⟨x, List.mem_of_find?_eq_some hf, by simpa using List.find?_some hf, rfl⟩
theorem box_ent {base : Nat} {w : World} {b : Nat} {x : EV} (hb : base ≤ b) (h : w.heap[b]? = some (.cells (entL x).toArray 45 (0, 0))) : ownsC w base 45 10 (.slice (some ⟨b, 0, none⟩) 1 1) 1 (entL x) :=
 ⟨by rfl, .inr ⟨b, 1, _, rfl, hb, h, Nat.le_refl _, by unfold maxLen; omega, by simp [entL], by simp [entL]⟩⟩
theorem own_ents {base : Nat} {w : World} {a : Option Addr} {n c : Nat} {os es : List EV} {v : Value} {u : World} (ho : ownsC w base 45 10 (.slice a n c) n (os.flatMap entL)) (hn : n = os.length) (hm : n ≤ 100000) (hs : ∀ x ∈ os, x ∈ es) (he : EntsAt zAll u v es) (hb : Below u.heap.size u w) : EntsAt zAll w (.slice a n c) os := by
 subst hn
 have h0 : ownsC w 0 45 10 (.slice a os.length c) os.length (os.flatMap entL) := ownsC_mono ho (Nat.zero_le _)
 refine (ents_own h0 (by omega) (fun x hx => ((ents_mem he x (hs x hx)).below hb).keep ⟨fun _ _ _ => Nat.zero_le _, Nat.le_refl _, fun _ _ _ h => h⟩)).keep ⟨fun _ _ _ => trivial, Nat.le_refl _, fun _ _ _ h => h⟩
theorem EntsAt.src {Z : Zone} {w : World} {v : Value} {es : List EV} (h : EntsAt Z w v es) : Src Tryz.prog 10 68 v es.length (es.flatMap entL) w := by
 obtain ⟨a, c, rfl, hb, h4⟩ := h
 have hlen : (es.flatMap entL).length = es.length * 10 := flat_len entL_len es
 have h1 : ∀ u ∈ es.flatMap entL, u.oneCell' = true := fun u hu => by obtain ⟨x, _, hx⟩ := List.mem_flatMap.1 hu; exact entL_one x u hx
 cases a with
 | none =>
  obtain ⟨e1, e2⟩ := hb.nil rfl
  have : es = [] := eN0 e1
  subst this
  subst e2
  exact Src.ofNil w Tryz.underlying68 0
 | some a =>
  refine Src.ofSlice w Tryz.underlying68 a es.length c (es.flatMap entL) hlen (fun j u hj => ?_) h1
  have hjl : j < (es.flatMap entL).length := (gEs.1 hj).1
  have hne : es ≠ [] := fun e => by rw [e] at hj; simp at hj
  obtain ⟨b, o, e, -, -, hcs⟩ := h4 hne
  obtain rfl := sIj e
  rw [hlen] at hjl
  have hi : j / 10 < es.length := by omega
  obtain ⟨x, hx⟩ : ∃ x, es[j / 10]? = some x := ⟨_, gEg hi⟩
  have h2 := flat_at entL_len es (j / 10) x hx (j % 10) (Nat.mod_lt _ (by omega))
  rw [show j / 10 * 10 + j % 10 = j by omega, hj] at h2
  have := (hcs _ x hx).2 (j % 10) u h2.symm
  rw [Addr.add_lit]
  rw [show o + j / 10 * 10 + j % 10 = o + j by omega] at this
  exact this
theorem kt_ent {w w' : World} {base n : Nat} {v : Value} {xs : List Value} (h : ownsC w base 45 10 v n xs) (hg : w.grownBy w' v.ownBlock) : KT 41 w w' := fun b c f hb =>
 (hg.block b (loh hb) (fun e => by
  obtain ⟨-, cur, hc⟩ := oCk h e.symm
  rw [hb] at hc
  have := (Obj.cells.inj (sIj hc)).2.1
  exact absurd this (by decide))).trans hb
def OwnE (base : Nat) (w : World) (a : Option Addr) (n c : Nat) (os : List EV) : Prop := n = os.length ∧ ownsC w base 45 10 (.slice a n c) n (os.flatMap entL) ∧ (∀ x ∈ os, PRow base w (withR x)) ∧ ∀ x ∈ os, x.1.choice.2.length ≤ 100000
theorem OwnE.below {base : Nat} {w w' : World} {a : Option Addr} {n c : Nat} {os : List EV} (h : OwnE base w a n c os) (hb : Below w.heap.size w w') : OwnE base w' a n c os :=
 ⟨h.1, ownsC_below h.2.1 hb, fun x hx => (KT.below hb).owns (h.2.2.1 x hx), h.2.2.2⟩
theorem OwnE.ents {base : Nat} {w : World} {a : Option Addr} {n c : Nat} {os : List EV} (h : OwnE base w a n c os) (hm : n ≤ 100000) : EntsAt (zNew base) w (.slice a n c) os := by
 obtain ⟨rfl, h2, h3, h4⟩ := h
 exact ents_own h2 (by omega) (fun x hx => (h3 x hx).at (by have := h4 x hx; show x.1.choice.2.length ≤ _; omega))
theorem OwnE.push {base : Nat} {w w' : World} {a a' : Option Addr} {n c c' : Nat} {os : List EV} {x : EV} (h : OwnE base w a n c os) (hg : w.grownBy w' (Value.slice a n c).ownBlock) (ho : ownsC w' base 45 10 (.slice a' (n + 1) c') (n + 1) (os.flatMap entL ++ entL x)) (hx : PRow base w (withR x)) (hl : x.1.choice.2.length ≤ 100000) : OwnE base w' a' (n + 1) c' (os ++ [x]) := by
 obtain ⟨h1, h2, h3, h4⟩ := h
 have hk := kt_ent h2 hg
 refine ⟨by rw [lAp, lSg, h1], ?_, fun y hy => ?_, fun y hy => ?_⟩
 ·rw [List.flatMap_append, List.flatMap_singleton]; exact ho
 ·rcases List.mem_append.1 hy with hy | hy
  ·exact hk.owns (h3 y hy)
  ·rw [mSg.1 hy]; exact hk.owns hx
 ·rcases List.mem_append.1 hy with hy | hy
  ·exact h4 y hy
  ·rw [mSg.1 hy]; exact hl
theorem OwnE.bel {base : Nat} {u w w' : World} {a : Option Addr} {n c : Nat} {os : List EV} (h : OwnE base w a n c os) (hg : w.grownBy w' (Value.slice a n c).ownBlock) (hb : Below base u w) (hs : base ≤ w.heap.size) : Below base u w' :=
 hb.grown hg hs (fun g hg => (oCk h.2.1 hg).1)
theorem OwnE.perm {base : Nat} {w w' : World} {a : Option Addr} {n c : Nat} {os ds : List EV} (h : OwnE base w a n c os) (hp : ds.Perm os) (ho : ownsC w' base 45 10 (.slice a n c) ds.length (ds.flatMap entL)) (hg : w.grownBy w' (Value.slice a n c).ownBlock) : OwnE base w' a n c ds := by
 obtain ⟨h1, h2, h3, h4⟩ := h
 have hk := kt_ent h2 hg
 have hl : ds.length = n := by rw [hp.length_eq, h1]
 exact ⟨hl.symm, by rw [hl] at ho; exact ho, fun y hy => hk.owns (h3 y (hp.mem_iff.1 hy)), fun y hy => h4 y (hp.mem_iff.1 hy)⟩
end Go.Proofs.YtaagkndhgicifaaGreat
