/- DERIVED. Texts of this claim, put together: StockMath, StockTab, StockPut, PathNameS, Vers, RecAt, Span. -/
import Derived.Test.YtaagkndhgicifaaGreatSv01
import Derived.Lib.OthersKept
import Derived.Laws.RangeAny
import Derived.Deep.LoopGhost
import Derived.Lib.TrimU
import Derived.Shelf.Abstract
import Derived.Laws.EntriesVeiled
namespace Go.Proofs.YtaagkndhgicifaaGreat
open Go.RowKit
set_option linter.unusedVariables false
def verLt (v u : Ver) : Bool := decide (v.1 < u.1 ∨ (v.1 = u.1 ∧ (v.2.1 < u.2.1 ∨ (v.2.1 = u.2.1 ∧ v.2.2 < u.2.2))))
theorem verLt_irr (v : Ver) : verLt v v = false := by simp [verLt]
theorem verLt_trans {a b c : Ver} (h1 : verLt a b = true) (h2 : verLt b c = true) : verLt a c = true := by
 simp only [verLt, decide_eq_true_eq] at h1 h2 ⊢
 omega
theorem verLt_tot {a b : Ver} (h1 : verLt a b = false) (h2 : verLt b a = false) : a = b := by
 obtain ⟨a0, a1, a2⟩ := a
 obtain ⟨b0, b1, b2⟩ := b
 simp only [verLt, decide_eq_false_iff_not] at h1 h2
 have e0 : a0 = b0 := by omega
 have e1 : a1 = b1 := by omega
 have e2 : a2 = b2 := by omega
 rw [e0, e1, e2]
theorem verLt_num {a b : Ver} (ha : verGood a = true) (hb : verGood b = true) : verLt a b = decide (verNum a < verNum b) := by
 obtain ⟨a0, a1, a2⟩ := a
 obtain ⟨b0, b1, b2⟩ := b
 unfold verNum
 rw [if_pos ha, if_pos hb]
 simp only [verGood, decide_eq_true_eq] at ha hb
 unfold verLt
 rw [decide_eq_decide]
 dsimp only
 omega
def pkLt (p q : Pk) : Bool := if p.1 = q.1 then verLt p.2 q.2 else Op.bytesLess p.1 q.1
theorem pkLt_irr (p : Pk) : pkLt p p = false := by unfold pkLt; rw [if_pos rfl]; exact verLt_irr _
theorem pkLt_trans {a b c : Pk} (h1 : pkLt a b = true) (h2 : pkLt b c = true) : pkLt a c = true := by
 unfold pkLt at h1 h2 ⊢
 by_cases e1 : a.1 = b.1
 ·rw [if_pos e1] at h1
  by_cases e2 : b.1 = c.1
  ·rw [if_pos e2] at h2
   rw [if_pos (e1.trans e2)]
   exact verLt_trans h1 h2
  ·rw [if_neg e2] at h2
   rw [if_neg (by rw [e1]; exact e2), e1]
   exact h2
 ·rw [if_neg e1] at h1
  by_cases e2 : b.1 = c.1
  ·rw [if_neg (by rw [← e2]; exact e1), ← e2]
   exact h1
  ·rw [if_neg e2] at h2
   have h := less_trans _ _ _ h1 h2
   rw [if_neg (less_ne h)]
   exact h
theorem pkLt_tot {a b : Pk} (h1 : pkLt a b = false) (h2 : pkLt b a = false) : a = b := by
 unfold pkLt at h1 h2
 by_cases e1 : a.1 = b.1
 ·rw [if_pos e1] at h1
  rw [if_pos e1.symm] at h2
  exact Prod.ext e1 (verLt_tot h1 h2)
 ·rw [if_neg e1] at h1
  rw [if_neg (fun e => e1 e.symm)] at h2
  exact absurd (less_total _ _ h1 h2) e1
theorem pkLt_asymm {a b : Pk} (h : pkLt a b = true) : pkLt b a = false := by
 cases hb : pkLt b a
 ·rfl
 ·have := pkLt_trans h hb
  rw [pkLt_irr] at this
  cases this
theorem pkLt_ne {a b : Pk} (h : pkLt a b = true) : a ≠ b := by
 rintro rfl
 rw [pkLt_irr] at h
 cases h
def SrtP (l : List Pk) : Prop := l.Pairwise fun a b => pkLt a b = true
def withL (l : List Pk) (p : Pk) : List Pk := l.filter (fun x => pkLt x p) ++ p :: l.filter (fun x => pkLt p x)
theorem mem_withL {l : List Pk} {p q : Pk} : q ∈ withL l p ↔ q = p ∨ q ∈ l := by
 unfold withL
 simp only [List.mem_append, List.mem_filter, List.mem_cons]
 constructor
 ·rintro (h | h | h)
  ·exact .inr h.1
  ·exact .inl h
  ·exact .inr h.1
 ·rintro (h | h)
  ·exact .inr (.inl h)
  ·by_cases e : q = p
   ·exact .inr (.inl e)
   ·cases h1 : pkLt q p
    ·cases h2 : pkLt p q
     ·exact absurd (pkLt_tot h1 h2) e
     ·exact .inr (.inr ⟨h, rfl⟩)
    ·exact .inl ⟨h, rfl⟩
theorem withL_srt {l : List Pk} {p : Pk} (h : SrtP l) : SrtP (withL l p) := by
 unfold withL
 refine List.pairwise_append.2 ⟨h.filter _, List.pairwise_cons.2 ⟨fun q hq => (List.mem_filter.1 hq).2, h.filter _⟩, ?_⟩
 intro a ha b hb
 have h1 := (List.mem_filter.1 ha).2
 rcases List.mem_cons.1 hb with rfl | hb
 ·exact h1
 ·exact pkLt_trans h1 (List.mem_filter.1 hb).2
def sortP (l : List Pk) : List Pk := l.foldl withL []
theorem foldl_withL (l : List Pk) : ∀ s : List Pk, SrtP s → SrtP (l.foldl withL s) ∧ ∀ q, q ∈ l.foldl withL s ↔ q ∈ s ∨ q ∈ l := by
 induction l with
 | nil => intro s hs; exact ⟨hs, by simp⟩
 | cons p l ih =>
  intro s hs
  obtain ⟨h1, h2⟩ := ih (withL s p) (withL_srt hs)
  refine ⟨h1, fun q => ?_⟩
  rw [List.foldl_cons, h2, mem_withL, List.mem_cons]
  constructor
  ·rintro ((h | h) | h)
   ·exact .inr (.inl h)
   ·exact .inl h
   ·exact .inr (.inr h)
  ·rintro (h | h | h)
   ·exact .inl (.inr h)
   ·exact .inl (.inl h)
   ·exact .inr h
theorem sortP_srt (l : List Pk) : SrtP (sortP l) := (foldl_withL l [] List.Pairwise.nil).1
theorem mem_sortP {l : List Pk} {q : Pk} : q ∈ sortP l ↔ q ∈ l := by
 have := (foldl_withL l [] List.Pairwise.nil).2 q
 simpa [sortP] using this
theorem srtP_ext : ∀ {ps qs : List Pk}, SrtP ps → SrtP qs → (∀ p, p ∈ ps ↔ p ∈ qs) → ps = qs
 | [], [], _, _, _ => rfl
 | [], q :: _, _, _, h => absurd ((h q).2 (mCs ..)) (by simp)
 | p :: _, [], _, _, h => absurd ((h p).1 (mCs ..)) (by simp)
 | p :: ps, q :: qs, h1, h2, h => by
  obtain ⟨a1, a2⟩ := List.pairwise_cons.1 h1
  obtain ⟨b1, b2⟩ := List.pairwise_cons.1 h2
  have e : p = q := by
   rcases List.mem_cons.1 ((h p).1 (mCs ..)) with e | e
   ·exact e
   ·rcases List.mem_cons.1 ((h q).2 (mCs ..)) with f | f
    ·exact f.symm
    ·have g1 := b1 p e
     have g2 := a1 q f
     rw [pkLt_asymm g1] at g2
     cases g2
  subst e
  rw [srtP_ext a2 b2 (fun r => ?_)]
  constructor
  ·intro hr
   rcases List.mem_cons.1 ((h r).1 (mCm _ hr)) with e | e
   ·subst e
    have := a1 r hr
    rw [pkLt_irr] at this; cases this
   ·exact e
  ·intro hr
   rcases List.mem_cons.1 ((h r).2 (mCm _ hr)) with e | e
   ·subst e
    have := b1 r hr
    rw [pkLt_irr] at this; cases this
   ·exact e
structure St where
 seeds : List Pk
 recs : List Rc
def St.empty : St := ⟨[], []⟩
def St.rec? (s : St) (p : Pk) : Option Rc := s.recs.find? fun r => decide (r.pkg = p)
def St.isSeed (s : St) (p : Pk) : Bool := s.seeds.any fun x => decide (x = p)
def St.has (s : St) (p : Pk) : Bool := (s.rec? p).isSome || s.isSeed p
def St.pkgs (s : St) : List Pk := s.seeds ++ s.recs.map Rc.pkg
def St.all (s : St) : List Pk := sortP s.pkgs
def St.fits (s : St) (d : Dp) : List Pk := (s.all.filter (willB d)).reverse
def inP (pool : List Pk) (p : Pk) : Bool := pool.any fun x => decide (x = p)
def St.fitsP (s : St) (pool : List Pk) (d : Dp) : List Pk := (s.fits d).filter (inP pool)
def St.runs (s : St) (p : Pk) : List Dp := match s.rec? p with
 | some r => r.run
 | none => []
def pk0 : Pk := ([], 0, 0, 0)
abbrev Ch5 := Pk × List Pk
def ch0 : Ch5 := (pk0, [])
noncomputable def solveT (s : St) (p : Pk) (pool : List Pk) (left : Int) : Ch5 × Int × Int := match s.rec? p with
 | none => (ch0, 0, 14)
 | some r => match s.fitsP pool r.tool with
  | [] => (ch0, 0, 12)
  | t :: _ => if left < 1 then (ch0, 0, 60) else match meet (s.fitsP pool) s.runs (left - 1).toNat r.build [] with
   | (.ok ch, b) => ((t, sortP ch), left - b, 0)
   | (.clash, b) => (ch0, left - b, 12)
   | (.budget, b) => (ch0, left - b, 60)
theorem St.mem_all {s : St} {p : Pk} : p ∈ s.all ↔ p ∈ s.pkgs := mem_sortP
theorem St.isSeed_iff {s : St} {p : Pk} : s.isSeed p = true ↔ p ∈ s.seeds := by simp [St.isSeed]
theorem inP_iff {l : List Pk} {p : Pk} : inP l p = true ↔ p ∈ l := by simp [inP]
theorem St.rec?_some {s : St} {p : Pk} {r : Rc} (h : s.rec? p = some r) : r ∈ s.recs ∧ r.pkg = p := by
 unfold St.rec? at h
 exact ⟨List.mem_of_find?_eq_some h, by simpa using List.find?_some h⟩
theorem St.rec?_none {s : St} {p : Pk} : s.rec? p = none ↔ p ∉ s.recs.map Rc.pkg := by
 unfold St.rec?
 rw [List.find?_eq_none]
 simp
theorem St.has_iff {s : St} {p : Pk} : s.has p = true ↔ p ∈ s.pkgs := by
 unfold St.has St.pkgs
 rw [Bool.or_eq_true, St.isSeed_iff, List.mem_append, Option.isSome_iff_ne_none, ne_eq, St.rec?_none]
 constructor
 ·rintro (h | h)
  ·exact .inr (Decidable.byContradiction h)
  ·exact .inl h
 ·rintro (h | h)
  ·exact .inr h
  ·exact .inl (fun g => g h)
structure St.Ok (s : St) : Prop where
 good : ∀ p ∈ s.pkgs, verGood p.2 = true
 nodup : s.pkgs.Nodup
theorem St.rec?_of {s : St} (h : s.Ok) {r : Rc} (hr : r ∈ s.recs) : s.rec? r.pkg = some r := by
 cases hq : s.rec? r.pkg with
 | none => exact absurd (List.mem_map.2 ⟨r, hr, rfl⟩) (St.rec?_none.1 hq)
 | some r' =>
  obtain ⟨h1, h2⟩ := St.rec?_some hq
  have hn : (s.recs.map Rc.pkg).Nodup := (List.nodup_append.1 h.nodup).2.1
  obtain ⟨i, hi⟩ := List.mem_iff_getElem?.1 hr
  obtain ⟨j, hj⟩ := List.mem_iff_getElem?.1 h1
  have hil := (gEs.1 hi).1
  have hjl := (gEs.1 hj).1
  have e1 : (s.recs.map Rc.pkg)[i]? = (s.recs.map Rc.pkg)[j]? := by
   rw [List.getElem?_map, List.getElem?_map, hi, hj]
   simp [h2]
  have e2 := (List.getElem?_inj (by simpa using hil) hn).1 e1
  subst e2
  rw [hi] at hj
  rw [← sIj hj]
abbrev En := Option Rc
abbrev Sh := List (Int × En)
abbrev Tb := List (List UInt8 × Sh)
def EntOf (s : St) (n : List UInt8) (k : Int) (e : En) : Prop := 0 ≤ k ∧ k < 1000000000 ∧ ((e = none ∧ (n, verOf k) ∈ s.seeds) ∨ ∃ r, r ∈ s.recs ∧ e = some r ∧ r.pkg = (n, verOf k))
structure TabT (T : Tb) (s : St) : Prop where
 srt : T.Pairwise fun a b => Op.bytesLess a.1 b.1 = true
 inner : ∀ n L, (n, L) ∈ T → L.Pairwise fun a b => a.1 < b.1
 iff : ∀ n k e, (∃ L, (n, L) ∈ T ∧ (k, e) ∈ L) ↔ EntOf s n k e
theorem TabT.one {T : Tb} {s : St} (h : TabT T s) {n : List UInt8} {L M : Sh} (h1 : (n, L) ∈ T) (h2 : (n, M) ∈ T) : L = M := by
 obtain ⟨i, hi⟩ := List.mem_iff_getElem?.1 h1
 obtain ⟨j, hj⟩ := List.mem_iff_getElem?.1 h2
 have key : ∀ (i j : Nat), i < j → T[i]? = some (n, L) → T[j]? = some (n, M) → False := by
  intro i j hij hi hj
  obtain ⟨a1, e1⟩ := gEs.1 hi
  obtain ⟨a2, e2⟩ := gEs.1 hj
  have := List.pairwise_iff_getElem.1 h.srt i j a1 a2 hij
  rw [e1, e2, less_irrefl] at this
  cases this
 have key2 : ∀ (i j : Nat), i < j → T[i]? = some (n, M) → T[j]? = some (n, L) → False := by
  intro i j hij hi hj
  obtain ⟨a1, e1⟩ := gEs.1 hi
  obtain ⟨a2, e2⟩ := gEs.1 hj
  have := List.pairwise_iff_getElem.1 h.srt i j a1 a2 hij
  rw [e1, e2, less_irrefl] at this
  cases this
 rcases Nat.lt_trichotomy i j with hl | rfl | hl
 ·exact (key i j hl hi hj).elim
 ·rw [hi] at hj
  exact (Prod.mk.inj (sIj hj)).2
 ·exact (key2 j i hl hj hi).elim
theorem tab_empty : TabT [] St.empty := by
 refine ⟨List.Pairwise.nil, (fun n L h => by cases h), fun n k e => ⟨?_, ?_⟩⟩
 ·rintro ⟨L, h, _⟩
  cases h
 ·rintro ⟨_, _, ⟨_, h⟩ | ⟨r, h, _⟩⟩ <;> cases h
def St.ent (s : St) (p : Pk) : Option En := match s.rec? p with
 | some r => some (some r)
 | none => if s.isSeed p then some none else none
theorem entOf_iff {s : St} (h : s.Ok) {p : Pk} {e : En} : EntOf s p.1 (verNum p.2) e ↔ s.ent p = some e := by
 have hg : ∀ v, verGood v = true → (0 ≤ verNum v ∧ verNum v < 1000000000) ∧ verOf (verNum v) = v := fun v hv => ⟨verNum_lt hv, verOf_num hv⟩
 constructor
 ·rintro ⟨h0, h1, h2⟩
  have hv : verGood p.2 = true := by
   cases hb : verGood p.2
   ·unfold verNum at h0
    rw [if_neg (by rw [hb]; simp)] at h0
    omega
   ·rfl
  have e1 : (p.1, verOf (verNum p.2)) = p := by rw [(hg _ hv).2]
  rw [e1] at h2
  rcases h2 with ⟨rfl, h2⟩ | ⟨r, hr, rfl, h2⟩
  ·unfold St.ent
   have hn : s.rec? p = none := by
    rw [St.rec?_none]
    intro hm
    exact (List.nodup_append.1 h.nodup).2.2 p h2 p hm rfl
   rw [hn]
   dsimp only
   rw [if_pos (St.isSeed_iff.2 h2)]
  ·unfold St.ent
   rw [← h2, St.rec?_of h hr]
 ·intro he
  unfold St.ent at he
  have hv : verGood p.2 = true := by
   apply h.good
   unfold St.pkgs
   rw [List.mem_append]
   cases hq : s.rec? p with
   | none =>
    rw [hq] at he
    dsimp only at he
    split at he
    ·rename_i hs
     exact .inl (St.isSeed_iff.1 hs)
    ·cases he
   | some r => exact .inr (List.mem_map.2 ⟨r, (St.rec?_some hq).1, (St.rec?_some hq).2⟩)
  have e1 : (p.1, verOf (verNum p.2)) = p := by rw [(hg _ hv).2]
  refine ⟨(hg _ hv).1.1, (hg _ hv).1.2, ?_⟩
  rw [e1]
  cases hq : s.rec? p with
  | none =>
   rw [hq] at he
   dsimp only at he
   split at he
   ·rename_i hs
    exact .inl ⟨(sIj he).symm, St.isSeed_iff.1 hs⟩
   ·cases he
  | some r =>
   rw [hq] at he
   exact .inr ⟨r, (St.rec?_some hq).1, (sIj he).symm, (St.rec?_some hq).2⟩
theorem ent_has {s : St} {p : Pk} : (s.ent p).isSome = s.has p := by
 unfold St.ent St.has
 cases s.rec? p with
 | some r => rfl
 | none =>
  cases s.isSeed p <;> rfl
def fitsL (d : Dp) (L : Sh) : List Pk := (L.reverse.filter fun x => spanHas d.2 (verOf x.1)).map fun x => (d.1, verOf x.1)
theorem fitsL_eq {T : Tb} {s : St} (h : TabT T s) (ho : s.Ok) (d : Dp) (L : Sh) (hL : (d.1, L) ∈ T) : fitsL d L = s.fits d := by
 have hk : ∀ x ∈ L, 0 ≤ x.1 ∧ x.1 < 1000000000 := fun x hx => by
  have := (h.iff d.1 x.1 x.2).1 ⟨L, hL, hx⟩
  exact ⟨this.1, this.2.1⟩
 have hr : (fitsL d L).reverse = (L.filter fun x => spanHas d.2 (verOf x.1)).map fun x => (d.1, verOf x.1) := by
  unfold fitsL
  rw [← List.map_reverse, ← List.filter_reverse, List.reverse_reverse]
 have key : (fitsL d L).reverse = s.all.filter (willB d) := by
  rw [hr]
  refine srtP_ext ?_ ((sortP_srt _).filter _) fun p => ?_
  ·refine List.pairwise_map.2 ?_
   have hp := (h.inner _ _ hL).filter (fun x => spanHas d.2 (verOf x.1))
   refine hp.imp_of_mem fun {a b} ha hb hab => ?_
   have ga := hk a (List.mem_filter.1 ha).1
   have gb := hk b (List.mem_filter.1 hb).1
   unfold pkLt
   rw [if_pos rfl, verLt_num (verOf_good ga.1 ga.2).1 (verOf_good gb.1 gb.2).1, (verOf_good ga.1 ga.2).2, (verOf_good gb.1 gb.2).2]
   exact decide_eq_true hab
  ·rw [List.mem_map, List.mem_filter, St.mem_all]
   constructor
   ·rintro ⟨x, hx, rfl⟩
    obtain ⟨hx1, hx2⟩ := List.mem_filter.1 hx
    have he := (h.iff d.1 x.1 x.2).1 ⟨L, hL, hx1⟩
    refine ⟨?_, by unfold willB; simpa using hx2⟩
    unfold St.pkgs
    rw [List.mem_append]
    rcases he.2.2 with ⟨_, h2⟩ | ⟨r, hr, _, h2⟩
    ·exact .inl h2
    ·exact .inr (List.mem_map.2 ⟨r, hr, h2⟩)
   ·rintro ⟨hp, hw⟩
    unfold willB at hw
    rw [Bool.and_eq_true, decide_eq_true_eq] at hw
    have hg := ho.good p hp
    have hn := verNum_lt hg
    have e1 : (d.1, verOf (verNum p.2)) = p := by rw [verOf_num hg, ← hw.1]
    have hh : ∃ e, s.ent p = some e := by
     have := St.has_iff.2 hp
     rw [← ent_has] at this
     exact Option.isSome_iff_exists.1 this
    obtain ⟨e, he⟩ := hh
    have := (h.iff p.1 (verNum p.2) e).2 ((entOf_iff ho).2 he)
    obtain ⟨L', hL', hx⟩ := this
    rw [hw.1] at hL'
    obtain rfl := h.one hL hL'
    refine ⟨(verNum p.2, e), List.mem_filter.2 ⟨hx, ?_⟩, e1⟩
    dsimp only
    rw [verOf_num hg]
    exact hw.2
 unfold St.fits
 rw [← key, List.reverse_reverse]
theorem fits_none {T : Tb} {s : St} (h : TabT T s) (ho : s.Ok) (d : Dp) (hn : ∀ L, (d.1, L) ∉ T) : s.fits d = [] := by
 unfold St.fits
 rw [List.reverse_eq_nil_iff, List.filter_eq_nil_iff]
 intro p hp hw
 rw [St.mem_all] at hp
 unfold willB at hw
 rw [Bool.and_eq_true, decide_eq_true_eq] at hw
 have := St.has_iff.2 hp
 rw [← ent_has] at this
 obtain ⟨e, he⟩ := Option.isSome_iff_exists.1 this
 obtain ⟨L, hL, _⟩ := (h.iff p.1 (verNum p.2) e).2 ((entOf_iff ho).2 he)
 rw [hw.1] at hL
 exact hn L hL
def rise : Int → List Gap → Bool
 | _, [] => true
 | last, g :: r => decide (last < g.1 ∧ g.1 < g.2 ∧ g.2 ≤ 1000000000) && rise g.2 r
def rangeB (r : List Gap) : Bool := rise (-1) r && decide (r.length ≤ 16)
def depB (d : Dp) : Bool := nameB d.1 && rangeB d.2
def depsB (l : List Dp) : Bool := decide (l.length ≤ 8) && (l.all depB && decide ((l.map Prod.fst).Nodup))
def pkgB (p : Pk) : Bool := nameB p.1 && verGood p.2
def goodRc (x : Rc) : Bool := pkgB x.pkg && (depB x.tool && (depsB x.build && depsB x.run))
def St.add (s : St) (x : Rc) : St × Int := if goodRc x = false then (s, 1) else if s.has x.pkg = true then (s, 11) else if s.recs.length = 32 then (s, 13) else (⟨s.seeds, s.recs ++ [x]⟩, 0)
def St.seed (s : St) (p : Pk) : St × Int := if pkgB p = false then (s, 1) else if s.has p = true then (s, 11) else if s.seeds.length = 8 then (s, 13) else (⟨s.seeds ++ [p], s.recs⟩, 0)
theorem seed_errs (s : St) (p : Pk) : ((s.seed p).2 = 0 ∧ pkgB p = true ∧ s.has p = false ∧ s.seeds.length ≠ 8 ∧ (s.seed p).1 = ⟨s.seeds ++ [p], s.recs⟩) ∨ ((s.seed p).2 ≠ 0 ∧ (s.seed p).1 = s) := by
 unfold St.seed
 split
 ·exact .inr ⟨by simp, rfl⟩
 ·split
  ·exact .inr ⟨by simp, rfl⟩
  ·split
   ·exact .inr ⟨by simp, rfl⟩
   ·exact .inl ⟨rfl, by simpa using ‹¬ pkgB p = false›, by simpa using ‹¬ s.has p = true›, ‹_›, rfl⟩
theorem not_has {s : St} {p : Pk} (h : s.has p = false) : p ∉ s.pkgs := fun hm => by
 rw [St.has_iff.2 hm] at h
 cases h
theorem ok_seed {s : St} (h : s.Ok) {p : Pk} (hg : verGood p.2 = true) (hn : s.has p = false) : St.Ok ⟨s.seeds ++ [p], s.recs⟩ := by
 have hn := not_has hn
 have e : (St.pkgs ⟨s.seeds ++ [p], s.recs⟩) = s.seeds ++ ([p] ++ s.recs.map Rc.pkg) := by simp [St.pkgs]
 have hp : (s.seeds ++ ([p] ++ s.recs.map Rc.pkg)).Perm (p :: s.pkgs) := by
  unfold St.pkgs
  exact List.perm_middle
 refine ⟨fun q hq => ?_, ?_⟩
 ·rw [e] at hq
  rcases List.mem_cons.1 (hp.mem_iff.1 hq) with rfl | hq
  ·exact hg
  ·exact h.good q hq
 ·rw [e]
  exact hp.nodup_iff.2 (List.nodup_cons.2 ⟨hn, h.nodup⟩)
theorem ok_add {s : St} (h : s.Ok) {x : Rc} (hg : verGood x.pkg.2 = true) (hn : s.has x.pkg = false) : St.Ok ⟨s.seeds, s.recs ++ [x]⟩ := by
 have hn := not_has hn
 have e : (St.pkgs ⟨s.seeds, s.recs ++ [x]⟩) = s.pkgs ++ [x.pkg] := by simp [St.pkgs]
 have hp : (s.pkgs ++ [x.pkg]).Perm (x.pkg :: s.pkgs) := List.perm_append_singleton _ _
 refine ⟨fun q hq => ?_, ?_⟩
 ·rw [e] at hq
  rcases List.mem_cons.1 (hp.mem_iff.1 hq) with rfl | hq
  ·exact hg
  ·exact h.good q hq
 ·rw [e]
  exact hp.nodup_iff.2 (List.nodup_cons.2 ⟨hn, h.nodup⟩)
theorem ent_seed {s : St} {p : Pk} (hg : verGood p.2 = true) (n : List UInt8) (k : Int) (e : En) : EntOf ⟨s.seeds ++ [p], s.recs⟩ n k e ↔ EntOf s n k e ∨ (n = p.1 ∧ k = verNum p.2 ∧ e = none) := by
 unfold EntOf
 dsimp only
 rw [List.mem_append, mSg]
 constructor
 ·rintro ⟨h0, h1, ⟨rfl, h2 | h2⟩ | h2⟩
  ·exact .inl ⟨h0, h1, .inl ⟨rfl, h2⟩⟩
  ·subst h2
   exact .inr ⟨rfl, (verOf_good h0 h1).2.symm, rfl⟩
  ·exact .inl ⟨h0, h1, .inr h2⟩
 ·rintro (⟨h0, h1, ⟨h2, h3⟩ | h2⟩ | ⟨rfl, rfl, rfl⟩)
  ·exact ⟨h0, h1, .inl ⟨h2, .inl h3⟩⟩
  ·exact ⟨h0, h1, .inr h2⟩
  ·have := verNum_lt hg
   exact ⟨this.1, this.2, .inl ⟨rfl, .inr (by rw [verOf_num hg])⟩⟩
theorem ent_add {s : St} {x : Rc} (hg : verGood x.pkg.2 = true) (n : List UInt8) (k : Int) (e : En) : EntOf ⟨s.seeds, s.recs ++ [x]⟩ n k e ↔ EntOf s n k e ∨ (n = x.pkg.1 ∧ k = verNum x.pkg.2 ∧ e = some x) := by
 unfold EntOf
 dsimp only
 constructor
 ·rintro ⟨h0, h1, h2 | ⟨r, hr, rfl, h2⟩⟩
  ·exact .inl ⟨h0, h1, .inl h2⟩
  ·rcases List.mem_append.1 hr with hr | hr
   ·exact .inl ⟨h0, h1, .inr ⟨r, hr, rfl, h2⟩⟩
   ·obtain rfl := mSg.1 hr
    rw [h2]
    exact .inr ⟨rfl, (verOf_good h0 h1).2.symm, rfl⟩
 ·rintro (⟨h0, h1, h2 | ⟨r, hr, rfl, h2⟩⟩ | ⟨rfl, rfl, rfl⟩)
  ·exact ⟨h0, h1, .inl h2⟩
  ·exact ⟨h0, h1, .inr ⟨r, List.mem_append_left _ hr, rfl, h2⟩⟩
  ·have := verNum_lt hg
   exact ⟨this.1, this.2, .inr ⟨x, List.mem_append_right _ (mSg.2 rfl), rfl, by rw [verOf_num hg]⟩⟩
theorem tab_put {T T' : Tb} {s s' : St} (h : TabT T s) {n : List UInt8} {k : Int} {e : En} {L' : Sh} (he : ∀ m j f, EntOf s' m j f ↔ EntOf s m j f ∨ (m = n ∧ j = k ∧ f = e)) (hs : T'.Pairwise fun a b => Op.bytesLess a.1 b.1 = true) (hL : L'.Pairwise fun a b => a.1 < b.1)
  (hm : ∀ m M, (m, M) ∈ T' ↔ (m ≠ n ∧ (m, M) ∈ T) ∨ (m = n ∧ M = L')) (hx : ∀ x, x ∈ L' ↔ x = (k, e) ∨ ∃ L, (n, L) ∈ T ∧ x ∈ L) : TabT T' s' := by
 refine ⟨hs, fun m M hM => ?_, fun m j f => ?_⟩
 ·rcases (hm m M).1 hM with ⟨_, h1⟩ | ⟨_, rfl⟩
  ·exact h.inner m M h1
  ·exact hL
 ·rw [he, ← h.iff]
  constructor
  ·rintro ⟨M, hM, hj⟩
   rcases (hm m M).1 hM with ⟨_, h1⟩ | ⟨rfl, rfl⟩
   ·exact .inl ⟨M, h1, hj⟩
   ·rcases (hx _).1 hj with h2 | ⟨L, h2, h3⟩
    ·obtain ⟨rfl, rfl⟩ := Prod.mk.inj h2
     exact .inr ⟨rfl, rfl, rfl⟩
    ·exact .inl ⟨L, h2, h3⟩
  ·rintro (⟨M, hM, hj⟩ | ⟨rfl, rfl, rfl⟩)
   ·by_cases hmn : m = n
    ·subst hmn
     exact ⟨L', (hm _ _).2 (.inr ⟨rfl, rfl⟩), (hx _).2 (.inr ⟨M, hM, hj⟩)⟩
    ·exact ⟨M, (hm _ _).2 (.inl ⟨hmn, hM⟩), hj⟩
   ·exact ⟨L', (hm _ _).2 (.inr ⟨rfl, rfl⟩), (hx _).2 (.inl rfl)⟩
set_option maxHeartbeats 32000000
def okR (r : Int) : Bool := (decide (97 ≤ r) && decide (r ≤ 122)) || (decide (48 ≤ r) && decide (r ≤ 57)) || decide (r = 45) || decide (r = 95) || decide (r = 46)
theorem okR_byte (c : UInt8) : okR (c.toNat : Int) = okB c := by
 have h := c.toNat_lt
 unfold okR okB
 have e1 : (decide (97 ≤ (c.toNat : Int))) = decide (97 ≤ c) := by rw [decide_eq_decide]; show _ ↔ (97 : UInt8).toNat ≤ c.toNat; simp; omega
 have e2 : (decide ((c.toNat : Int) ≤ 122)) = decide (c ≤ 122) := by rw [decide_eq_decide]; show _ ↔ c.toNat ≤ (122 : UInt8).toNat; simp; omega
 have e3 : (decide (48 ≤ (c.toNat : Int))) = decide (48 ≤ c) := by rw [decide_eq_decide]; show _ ↔ (48 : UInt8).toNat ≤ c.toNat; simp; omega
 have e4 : (decide ((c.toNat : Int) ≤ 57)) = decide (c ≤ 57) := by rw [decide_eq_decide]; show _ ↔ c.toNat ≤ (57 : UInt8).toNat; simp; omega
 have e5 : ∀ n : UInt8, (decide ((c.toNat : Int) = (n.toNat : Int))) = (c == n) := by
  intro n
  rw [Bool.eq_iff_iff, decide_eq_true_iff, beq_iff_eq, ← UInt8.toNat_inj]
  omega
 have f5 := e5 45; have f6 := e5 95; have f7 := e5 46
 rw [e1, e2, e3, e4]
 rw [show (decide ((c.toNat : Int) = 45)) = (c == 45) from f5, show (decide ((c.toNat : Int) = 95)) = (c == 95) from f6, show (decide ((c.toNat : Int) = 46)) = (c == 46) from f7]
theorem okR_high (r : Int) (h : 128 ≤ r) : okR r = false := by
 unfold okR
 simp; omega
theorem ok_any (r : Int) (w : World) : Calls Tryz.prog 93 #[.int .i32 r] w fun e w' => e = .returned (.bool (okR r)) ∧ w = w' := by
 have key : (okR r = true ∧ (97 ≤ r ∧ r ≤ 122)) ∨ (okR r = true ∧ (48 ≤ r ∧ r ≤ 57)) ∨ (okR r = true ∧ r = 45) ∨ (okR r = true ∧ r = 95) ∨ (okR r = true ∧ r = 46) ∨ (okR r = false ∧ (r < 48 ∧ r ≠ 45 ∧ r ≠ 46)) ∨ (okR r = false ∧ (57 < r ∧ r < 97 ∧ r ≠ 95)) ∨ (okR r = false ∧ 122 < r) := by
  by_cases a1 : 97 ≤ r ∧ r ≤ 122
  ·exact .inl ⟨by unfold okR; simp; omega, a1⟩
  ·by_cases a2 : 48 ≤ r ∧ r ≤ 57
   ·exact .inr (.inl ⟨by unfold okR; simp; omega, a2⟩)
   ·by_cases a3 : r = 45
    ·exact .inr (.inr (.inl ⟨by unfold okR; simp; omega, a3⟩))
    ·by_cases a4 : r = 95
     ·exact .inr (.inr (.inr (.inl ⟨by unfold okR; simp; omega, a4⟩)))
     ·by_cases a5 : r = 46
      ·exact .inr (.inr (.inr (.inr (.inl ⟨by unfold okR; simp; omega, a5⟩))))
      ·have hf : okR r = false := by unfold okR; simp; omega
       rcases (show r < 48 ∨ (57 < r ∧ r < 97) ∨ 122 < r from by omega) with h | h | h
       ·exact .inr (.inr (.inr (.inr (.inr (.inl ⟨hf, h, a3, a5⟩)))))
       ·exact .inr (.inr (.inr (.inr (.inr (.inr (.inl ⟨hf, h.1, h.2, a4⟩))))))
       ·exact .inr (.inr (.inr (.inr (.inr (.inr (.inr ⟨hf, h⟩))))))
 have e : ∀ b : Bool, b = false → Ending.returned (Value.bool b) = Ending.returned (Value.bool false) := by rintro b rfl; rfl
 rcases key with ⟨hk, h⟩ | ⟨hk, h⟩ | ⟨hk, rfl⟩ | ⟨hk, rfl⟩ | ⟨hk, rfl⟩ | ⟨hk, h1, h2, h3⟩ | ⟨hk, h1, h2, h3⟩ | ⟨hk, h⟩
 all_goals
  rw [hk]
  clear hk
  go_enter Tryz.func93, Tryz.ntmps93
  go_wp2
  go_ret
  refine ⟨?_, rfl⟩
 ·rfl
 ·rfl
 ·rfl
 ·rfl
 ·rfl
 ·refine e _ ?_; simp; omega
 ·refine e _ ?_; simp; omega
 ·refine e _ ?_; simp; omega
theorem not_any (r : Int) (w : World) (B : Nat) (hb : w.cell? ⟨B, 0, none⟩ = some (.func (.func 93) #[] #[])) : Calls Tryz.prog 95 #[.int .i32 r, .pointer (some ⟨B, 0, none⟩)] w fun e w' => e = .returned (.bool (!okR r)) ∧ w = w' := by
 go_enter Tryz.func95, Tryz.ntmps95
 go_wp2_with fail
 refine (ok_any r w).mono ?_
 rintro e w' ⟨rfl, rfl⟩
 go_wp2
 go_ret
 exact ⟨rfl, rfl⟩
def BadTo (l : List UInt8) (w : World) (e : Ending) (w' : World) : Prop := ∃ n : Int, e = .returned (.int .i64 n) ∧ (0 ≤ n ↔ l.all okB = false) ∧ -1 ≤ n ∧ Below w.heap.size w w'
theorem all_take {l : List UInt8} {k : Nat} {c : UInt8} (h : (l.take k).all okB = true) (hc : l[k]? = some c) (hk : okB c = true) : (l.take (k + 1)).all okB = true := by
 rw [List.take_add_one, hc, List.all_append, h]
 simp [hk]
theorem all_bad {l : List UInt8} {k : Nat} {c : UInt8} (hc : l[k]? = some c) (hk : okB c = false) : l.all okB = false := by
 cases h : l.all okB
 ·rfl
 ·have := List.all_eq_true.1 h c (List.mem_of_getElem? hc)
  rw [hk] at this; cases this
theorem idxf_any (s : ByteArray) (w : World) (B : Nat) (hb : w.cell? ⟨B, 0, none⟩ = some (.func (.func 93) #[] #[])) :
  Calls Tryz.prog 169 #[.string s, .func (.func 95) #[] #[.pointer (some ⟨B, 0, none⟩)], .bool true] w (BadTo s.data.toList w) := by
 have hB := cell_lt hb
 have HB := hdL hb; clear hb
 go_enter Tryz.func169, Tryz.ntmps169
 go_wp2
 go_loopg [] s.size (fun gf wx => ∃ pos : Nat, pos ≤ s.size ∧ wx.heap[w.heap.size]? = some (.stringIter s pos) ∧ Hid (Below w.heap.size w wx) ∧ Hid ((s.data.toList.take pos).all okB = true) ∧ s.size ≤ pos + gf)
 case atStart => exact ⟨0, Nat.zero_le _, World.iter_heap w s 0, (Below.refl _ w).alloc (Nat.le_refl _) _, rfl, by omega⟩
 case round =>
  obtain ⟨pos, hps, hit, hbw, hall, hfu⟩ := hrel
  by_cases hlt : pos < s.size
  ·obtain ⟨g', rfl⟩ : ∃ g', gk = g' + 1 := ⟨gk - 1, by omega⟩
   have hnx : ∀ ty, (Instr.next (.pointer (some ⟨w.heap.size, 0, none⟩)) true ty).run Tryz.prog wr = _ := fun ty => Lib.run_next_any_at wr w.heap.size s pos ty hit hlt
   have hwd := Lib.width_pos s pos
   obtain ⟨R, hR⟩ : ∃ R, (Utf8.decode s pos).1 = R := ⟨_, rfl⟩
   obtain ⟨K, hK⟩ : ∃ K, (Utf8.decode s pos).2 = K := ⟨_, rfl⟩
   have key : (okR (R : Int) = true ∧ pos + K ≤ s.size ∧ (s.data.toList.take (pos + K)).all okB = true) ∨ (okR (R : Int) = false ∧ s.data.toList.all okB = false) := by
    have hget : s.data.toList[pos]? = some (s[pos]'hlt) := by
     rw [gEg (by simp; exact hlt)]; rfl
    by_cases ha : (s[pos]'hlt).toNat < 128
    ·have hd := decode_ascii s pos hlt ha
     rw [hd] at hR hK
     subst hR hK
     cases hb : okB (s[pos]'hlt)
     ·exact .inr ⟨by rw [okR_byte, hb], all_bad hget hb⟩
     ·exact .inl ⟨by rw [okR_byte, hb], by omega, all_take hall.out hget hb⟩
    ·have h1 := (decode_high s pos hlt (by omega)).1
     rw [hR] at h1
     refine .inr ⟨okR_high _ (by omega), all_bad hget ?_⟩
     rw [← okR_byte]
     exact okR_high _ (by omega)
   rw [hR, hK] at hnx
   rw [hK] at hwd
   have hit2 := Lib.iterAt_heap wr w.heap.size s pos (pos + K) hit
   have hbw2 := Lib.below_iterAt hbw.out (k := w.heap.size) (Nat.le_refl _) s (pos + K)
   obtain ⟨W, hWd⟩ : ∃ W, wr.iterAt w.heap.size s (pos + K) = W := ⟨_, rfl⟩
   rw [hWd] at hnx hit2 hbw2
   have hbW : W.cell? ⟨B, 0, none⟩ = some (.func (.func 93) #[] #[]) := by rw [hbw2.cell hB]; exact HB.out
   have cS := not_any (R : Int) W B hbW
   have HW2 := hdL hbw2
   clear hbw2 hWd
   rcases key with ⟨hk, hk2, hk3⟩ | ⟨hk, hk2⟩
   ·rw [hk] at cS
    have CS := hdL cS; have HK3 := hdL hk3; clear cS hk3 hk
    go_wp2_with fail
    refine CS.out.mono ?_
    rintro e W' ⟨rfl, rfl⟩
    go_wp2
    go_roundg g'
    case measure => omega
    case rel => exact ⟨pos + K, hk2, hit2, HW2, HK3, by omega⟩
   ·rw [hk] at cS
    have CS := hdL cS; have HK2 := hdL hk2; clear cS hk2 hk
    go_wp2_with fail
    refine CS.out.mono ?_
    rintro e W' ⟨rfl, rfl⟩
    go_wp2
    go_ret
    exact ⟨pos, rfl, ⟨fun _ => HK2.out, fun _ => by omega⟩, by omega, HW2.out⟩
  ·have hnx : ∀ ty, (Instr.next (.pointer (some ⟨w.heap.size, 0, none⟩)) true ty).run Tryz.prog wr = _ := fun ty => Lib.run_next_end_at wr w.heap.size s pos ty hit hlt
   have hp : s.data.toList.all okB = true := by
    have := hall.out
    rwa [tLe (by simp; omega)] at this
   have HP := hdL hp
   clear hp
   go_wp2
   go_ret
   exact ⟨-1, rfl, ⟨fun h => by omega, fun h => by rw [HP.out] at h; cases h⟩, by omega, hbw.out⟩
theorem idxF_any (s : ByteArray) (w : World) (B : Nat) (hb : w.cell? ⟨B, 0, none⟩ = some (.func (.func 93) #[] #[])) :
  Calls Tryz.prog 133 #[.string s, .func (.func 95) #[] #[.pointer (some ⟨B, 0, none⟩)]] w (BadTo s.data.toList w) := by
 have HG := hdL (idxf_any s w B hb); clear hb
 go_enter Tryz.func133, Tryz.ntmps133
 go_wp2_with fail
 refine HG.out.mono ?_
 rintro e w' ⟨n, rfl, h1, h2, h3⟩
 have H1 := hdL h1; have H3 := hdL h3; clear h1 h3
 go_wp2
 go_ret
 exact ⟨n, rfl, H1.out, h2, H3.out⟩
theorem contF_any (s : ByteArray) (w : World) (B : Nat) (hb : w.cell? ⟨B, 0, none⟩ = some (.func (.func 93) #[] #[])) :
  Calls Tryz.prog 94 #[.string s, .func (.func 95) #[] #[.pointer (some ⟨B, 0, none⟩)]] w (fun e w' => e = .returned (.bool (!(s.data.toList.all okB))) ∧ Below w.heap.size w w') := by
 have HG := hdL (idxF_any s w B hb); clear hb
 go_enter Tryz.func94, Tryz.ntmps94
 go_wp2_with fail
 refine HG.out.mono ?_
 rintro e w' ⟨n, rfl, h1, h2, h3⟩
 have H1 := hdL h1; have H3 := hdL h3; clear h1 h3
 cases hc : s.data.toList.all okB
 ·have hn : 0 ≤ n := H1.out.2 hc
  have HC := hdL hc
  clear hc
  go_wp2
  go_ret
  refine ⟨?_, H3.out⟩
  rw [HC.out]; rfl
 ·have hn : n < 0 := by
   rcases Int.lt_or_le n 0 with h | h
   ·exact h
   ·have := H1.out.1 h; rw [hc] at this; cases this
  have HC := hdL hc
  clear hc
  obtain rfl : n = -1 := by omega
  go_wp2
  go_ret
  refine ⟨?_, H3.out⟩
  rw [HC.out]; rfl
theorem name_any (s : ByteArray) (w : World) (hs : s.size ≤ 140737488351232) : Calls Tryz.prog 58 #[.string s] w (fun e w' => e = .returned (.bool (nameB s.data.toList)) ∧ Below w.heap.size w w') := by
 have hB : Below w.heap.size w (w.alloc (.cells #[.func (.func 93) #[] #[]] 156)) := (Below.refl _ w).alloc (Nat.le_refl _) _
 by_cases h0 : s.data.toList = []
 ·have e0 : s = ⟨#[]⟩ := by
   cases s with | mk a => cases a with | mk t => simp_all
  subst e0
  rw [show nameB (ByteArray.mk #[]).data.toList = false from rfl]
  have HB := hdL hB
  clear h0 hs hB
  go_enter Tryz.func58, Tryz.ntmps58
  go_wp2
  go_ret
  exact ⟨rfl, HB.out⟩
 ·have hne : s.toList.isEmpty = false := by rw [ByteArray.toList_eq]; simpa using h0
  have hsl : s.size = s.data.toList.length := by simp
  have hpos : 0 < s.size := by rw [hsl]; exact List.length_pos_iff.2 h0
  have hhd : s.data.toList.head? = some (s[0]'hpos) := by
   rw [List.head?_eq_getElem?, gEg (by simp; exact hpos)]; rfl
  by_cases h1 : s.size ≤ 32
  ·by_cases h46 : s[0]'hpos = 46
   ·have hn : nameB s.data.toList = false := by
     unfold nameB
     rw [hhd, h46]; simp
    rw [hn]
    have h46' : ((s[0]'hpos).toNat : Int) = 46 := by rw [h46]; rfl
    have HB := hdL hB
    clear hn h0 hhd h46 hsl hB
    go_enter Tryz.func58, Tryz.ntmps58
    go_wp2
    go_ret
    exact ⟨rfl, HB.out⟩
   ·have hn : nameB s.data.toList = s.data.toList.all okB := by
     unfold nameB
     rw [hhd]
     have e1 : s.data.toList.isEmpty = false := by simpa using h0
     have e2 : decide (s.data.toList.length ≤ 32) = true := by rw [← hsl]; simpa using h1
     have e3 : (some (s[0]'hpos) != some 46) = true := by simpa using h46
     rw [e1, e2, e3]; rfl
    rw [hn]
    have h46' : ¬ ((s[0]'hpos).toNat : Int) = 46 := by
     intro h
     apply h46
     rw [← UInt8.toNat_inj]
     show _ = 46
     omega
    have h46n : (((s[0]'hpos).toNat : Int) != 46) = true := by simpa using h46'
    have hG := (contF_any s (w.alloc (.cells #[.func (.func 93) #[] #[]] 156)) w.heap.size (by rw [cOh (heap_alloc_new w _)]; rfl))
    obtain ⟨b, hb⟩ : ∃ b, b = s.data.toList.all okB := ⟨_, rfl⟩
    rw [← hb] at hG ⊢
    have HG := hdL hG
    clear hb hG
    have HB := hdL hB
    clear hn h0 hhd h46 hsl hB
    go_enter Tryz.func58, Tryz.ntmps58
    go_wp2_with fail
    refine HG.out.mono ?_
    rintro e w' ⟨rfl, h2⟩
    have HB2 := hdL (HB.out.trans (h2.mono (by simp)))
    clear h2
    cases b
    ·go_wp2
     go_ret
     exact ⟨rfl, HB2.out⟩
    ·go_wp2
     go_ret
     exact ⟨rfl, HB2.out⟩
  ·have hn : nameB s.data.toList = false := by
    unfold nameB; rw [← hsl]; simp [h1]
   rw [hn]
   have HB := hdL hB
   clear hn h0 hhd hsl hB
   go_enter Tryz.func58, Tryz.ntmps58
   go_wp2
   go_ret
   exact ⟨rfl, HB.out⟩
set_option maxRecDepth 100000
theorem verGood_iff {v : Ver} : verGood v = true ↔ (0 ≤ v.1 ∧ v.1 ≤ 999) ∧ (0 ≤ v.2.1 ∧ v.2.1 ≤ 999) ∧ (0 ≤ v.2.2 ∧ v.2.2 ≤ 999) := by
 simp only [verGood, decide_eq_true_eq]
 omega
theorem vgood_any (w : World) (v : Ver) : Calls Tryz.prog 59 #[.agg #[.int .i64 v.1, .int .i64 v.2.1, .int .i64 v.2.2]] w (fun e w' => e = .returned (.bool (verGood v)) ∧ Below w.heap.size w w') := by
 obtain ⟨a, b, c⟩ := v
 dsimp only
 obtain ⟨R, hR⟩ : ∃ R, R = verGood (a, b, c) := ⟨_, rfl⟩
 rw [← hR]
 have HB := hdL (show Below w.heap.size w (w.alloc (.cells #[.int .i64 a, .int .i64 b, .int .i64 c] 39)) from (Below.refl _ w).alloc (Nat.le_refl _) _)
 have hf : ¬ ((0 ≤ a ∧ a ≤ 999) ∧ (0 ≤ b ∧ b ≤ 999) ∧ (0 ≤ c ∧ c ≤ 999)) → R = false := fun h => by
  rw [hR]
  cases hg : verGood (a, b, c)
  ·rfl
  ·exact absurd (verGood_iff.1 hg) h
 have ht : ((0 ≤ a ∧ a ≤ 999) ∧ (0 ≤ b ∧ b ≤ 999) ∧ (0 ≤ c ∧ c ≤ 999)) → R = true := fun h => by
  rw [hR]
  exact verGood_iff.2 h
 have HF := hdL hf; have HT := hdL ht
 have hix0 : ∀ W : World, (Instr.index 39 (.agg #[.int .i64 a, .int .i64 b, .int .i64 c]) (.int .i64 0)).run Tryz.prog W = .ok (.int .i64 a) W := fun _ => by kernel_rfl
 have hix1 : ∀ W : World, (Instr.index 39 (.agg #[.int .i64 a, .int .i64 b, .int .i64 c]) (.int .i64 1)).run Tryz.prog W = .ok (.int .i64 b) W := fun _ => by kernel_rfl
 have hix2 : ∀ W : World, (Instr.index 39 (.agg #[.int .i64 a, .int .i64 b, .int .i64 c]) (.int .i64 2)).run Tryz.prog W = .ok (.int .i64 c) W := fun _ => by kernel_rfl
 clear hR hf ht
 go_enter Tryz.func59, Tryz.ntmps59
 go_wp2_with fail
 go_loop [6] (fun x => ∃ k : Nat, x = .int .i64 k ∧ k ≤ 3 ∧ (0 < k → 0 ≤ a ∧ a ≤ 999) ∧ (1 < k → 0 ≤ b ∧ b ≤ 999) ∧ (2 < k → 0 ≤ c ∧ c ≤ 999)) (fun x => 3 - (intOf x).toNat)
 case atStart => exact ⟨0, rfl, by omega, by omega, by omega, by omega⟩
 case round =>
  obtain ⟨k, rfl, hk, h0, h1, h2⟩ := hrel
  have HH := hdL (And.intro h0 (And.intro h1 h2))
  clear h0 h1 h2
  rcases (show k = 0 ∨ k = 1 ∨ k = 2 ∨ k = 3 from by omega) with rfl | rfl | rfl | rfl
  ·by_cases hx : 0 ≤ a ∧ a ≤ 999
   ·obtain ⟨hx1, hx2⟩ := hx
    have g1 : ¬ a < 0 := by omega
    have g2 : ¬ 999 < a := by omega
    go_wp2
    go_round
    case rel => exact ⟨1, rfl, by omega, fun _ => ⟨hx1, hx2⟩, by omega, by omega⟩
    case measure => simp [intOf]
   ·have HR := hdL (HF.out (fun h => hx h.1))
    rcases (show a < 0 ∨ (¬ a < 0 ∧ 999 < a) from by omega) with g1 | ⟨g1, g2⟩
    all_goals
     go_wp2
     go_ret
     exact ⟨by (rw [HR.out]; rfl), HB.out⟩
  ·by_cases hx : 0 ≤ b ∧ b ≤ 999
   ·obtain ⟨hx1, hx2⟩ := hx
    have g1 : ¬ b < 0 := by omega
    have g2 : ¬ 999 < b := by omega
    go_wp2
    go_round
    case rel => exact ⟨2, rfl, by omega, fun _ => HH.out.1 (by omega), fun _ => ⟨hx1, hx2⟩, by omega⟩
    case measure => simp [intOf]
   ·have HR := hdL (HF.out (fun h => hx h.2.1))
    rcases (show b < 0 ∨ (¬ b < 0 ∧ 999 < b) from by omega) with g1 | ⟨g1, g2⟩
    all_goals
     go_wp2
     go_ret
     exact ⟨by (rw [HR.out]; rfl), HB.out⟩
  ·by_cases hx : 0 ≤ c ∧ c ≤ 999
   ·obtain ⟨hx1, hx2⟩ := hx
    have g1 : ¬ c < 0 := by omega
    have g2 : ¬ 999 < c := by omega
    go_wp2
    go_round
    case rel => exact ⟨3, rfl, by omega, fun _ => HH.out.1 (by omega), fun _ => HH.out.2.1 (by omega), fun _ => ⟨hx1, hx2⟩⟩
    case measure => simp [intOf]
   ·have HR := hdL (HF.out (fun h => hx h.2.2))
    rcases (show c < 0 ∨ (¬ c < 0 ∧ 999 < c) from by omega) with g1 | ⟨g1, g2⟩
    all_goals
     go_wp2
     go_ret
     exact ⟨by (rw [HR.out]; rfl), HB.out⟩
  ·have HR := hdL (HT.out ⟨HH.out.1 (by omega), HH.out.2.1 (by omega), HH.out.2.2 (by omega)⟩)
   go_wp2
   go_ret
   exact ⟨by (rw [HR.out]; rfl), HB.out⟩
theorem vnum_any (w : World) (v : Ver) : Calls Tryz.prog 100 #[.agg #[.int .i64 v.1, .int .i64 v.2.1, .int .i64 v.2.2]] w (fun e w' => e = .returned (.int .i64 (verNum v)) ∧ Below w.heap.size w w') := by
 have hG := fun W => vgood_any W v
 obtain ⟨R, hR⟩ : ∃ R, R = verNum v := ⟨_, rfl⟩
 unfold verNum at hR
 have hgi := verGood_iff (v := v)
 obtain ⟨a, b, c⟩ := v
 dsimp only at hG hR hgi ⊢
 rw [show verNum (a, b, c) = R by rw [hR]; rfl]
 obtain ⟨w1, hw1, hb1, hx1, y1, y2⟩ : ∃ w1, w.alloc (.cells #[.int .i64 a, .int .i64 b, .int .i64 c] 39) = w1 ∧ Below w.heap.size w w1 ∧ w1.heap[w.heap.size]? = some (.cells #[.int .i64 a, .int .i64 b, .int .i64 c] 39 (0, 0)) ∧ w.heap.size + 1 ≤ w1.heap.size ∧ w1.heap.size ≤ w.heap.size + 1 := ⟨_, rfl, (Below.refl _ w).alloc (Nat.le_refl _) _, heap_alloc_new w _, by simp, by simp⟩
 obtain ⟨k0, k1, k2⟩ := cells3 hx1
 have HX := hdL hx1; have HB := hdL hb1
 clear hx1 hb1
 cases hg : verGood (a, b, c)
 ·rw [hg, if_neg (by simp)] at hR
  have hG1 := hG w1
  rw [hg] at hG1
  have HG := hdL hG1; have HR := hdL hR
  clear hG hG1 hg hgi hR
  go_enter Tryz.func100, Tryz.ntmps100
  go_wp2_with fail
  refine HG.out.mono ?_
  rintro e w2 ⟨rfl, h2⟩
  have H2 := hdL (HB.out.trans (h2.mono HB.out.size))
  clear h2
  go_wp2_with fail
  go_ret
  exact ⟨by (rw [HR.out]; rfl), H2.out⟩
 ·rw [hg, if_pos rfl] at hR
  obtain ⟨⟨g1, g2⟩, ⟨g3, g4⟩, g5, g6⟩ := hgi.1 hg
  have hG1 := hG w1
  rw [hg] at hG1
  have HG := hdL hG1; have HR := hdL hR
  clear hG hG1 hg hgi hR
  go_enter Tryz.func100, Tryz.ntmps100
  go_wp2_with fail
  refine HG.out.mono ?_
  rintro e w2 ⟨rfl, h2⟩
  have H2 := hdL (HB.out.trans (h2.mono HB.out.size))
  have hx2 := (h2.block _ (loh HX.out)).trans HX.out
  obtain ⟨j0, j1, j2⟩ := cells3 hx2
  clear h2 hx2 k0 k1 k2
  go_wp2_with fail
  go_ret
  exact ⟨by (rw [HR.out]; rfl), H2.out⟩
theorem vof_any (w : World) (n : Int) (h0 : 0 ≤ n) (h1 : n < 1000000000) : Calls Tryz.prog 81 #[.int .i64 n] w (fun e w' => e = .returned (.tuple #[.agg #[.int .i64 (verOf n).1, .int .i64 (verOf n).2.1, .int .i64 (verOf n).2.2], .bool true]) ∧ Below w.heap.size w w') := by
 obtain ⟨a, ha⟩ : ∃ a, a = n / 1000000 := ⟨_, rfl⟩
 obtain ⟨b, hb⟩ : ∃ b, b = n / 1000 % 1000 := ⟨_, rfl⟩
 obtain ⟨c, hc⟩ : ∃ c, c = n % 1000 := ⟨_, rfl⟩
 unfold verOf
 dsimp only
 have hx1 := heap_alloc_new w (.cells #[.int .i64 0, .int .i64 0, .int .i64 0] 39)
 obtain ⟨q0, q1, q2⟩ := cells3 hx1
 have qf := foh hx1
 have g1 : ¬ n < 0 := by omega
 have g2 : ¬ 1000000000 ≤ n := by omega
 have HB := hdL (fun u v z => (((((Below.refl _ w).alloc (Nat.le_refl _) (.cells #[.int .i64 0, .int .i64 0, .int .i64 0] 39)).setCell (p := ⟨w.heap.size, 0, none⟩) (Nat.le_refl _) u).setCell (p := ⟨w.heap.size, 1, none⟩) (Nat.le_refl _) v).setCell (p := ⟨w.heap.size, 2, none⟩) (Nat.le_refl _) z : Below w.heap.size w _))
 have HB2 := hdL (fun u v z => ((Below.refl _ w).alloc (Nat.le_refl _) (.cells #[u, v, z] 39) : Below w.heap.size w _))
 clear hx1 ha hb hc
 go_enter Tryz.func81, Tryz.ntmps81
 go_wp2_with fail
 refine bodyPost_ret (v := .tuple #[.agg #[.int .i64 (n / 1000000), .int .i64 (n / 1000 % 1000), .int .i64 (n % 1000)], .bool true]) (by simp [results, Tryz.results81, go_sem]) rfl ?_
 exact ⟨rfl, HB2.out _ _ _⟩
abbrev Zone := Nat → Prop
def zAll : Zone := fun _ => True
structure Bnd (n c : Nat) (a : Option Addr) : Prop where
 le : n ≤ c
 max : n ≤ 8796093022208
 cap : c ≤ maxLen
 nil : a = none → n = 0 ∧ c = 0
def GapsAt (Z : Zone) (w : World) (v : Value) (gs : List Gap) : Prop := ∃ a c, v = .slice a gs.length c ∧ Bnd gs.length c a ∧
 (gs ≠ [] → ∃ b o, a = some ⟨b, o, none⟩ ∧ Z b ∧ b < w.heap.size ∧ ∀ i g, gs[i]? = some g → w.cell? ⟨b, o + i * 2, none⟩ = some (.int .i64 g.1) ∧ w.cell? ⟨b, o + i * 2 + 1, none⟩ = some (.int .i64 g.2))
def DepAt (Z : Zone) (w : World) (v0 v1 : Value) (d : Dp) : Prop := v0 = strV d.1 ∧ d.1.length ≤ 140737488351232 ∧ GapsAt Z w v1 d.2
def DepsAt (Z : Zone) (w : World) (v : Value) (ds : List Dp) : Prop := ∃ a c, v = .slice a ds.length c ∧ Bnd ds.length c a ∧
 (ds ≠ [] → ∃ b o, a = some ⟨b, o, none⟩ ∧ Z b ∧ b < w.heap.size ∧ ∀ i d, ds[i]? = some d → ∃ v0 v1, w.cell? ⟨b, o + i * 2, none⟩ = some v0 ∧ w.cell? ⟨b, o + i * 2 + 1, none⟩ = some v1 ∧ DepAt Z w v0 v1 d)
def RecAt (Z : Zone) (w : World) (vs : List Value) (r : Rc) : Prop := ∃ t0 t1 b0 r0, vs = [strV r.pkg.1, .int .i64 r.pkg.2.1, .int .i64 r.pkg.2.2.1, .int .i64 r.pkg.2.2.2, t0, t1, b0, r0] ∧ r.pkg.1.length ≤ 140737488351232 ∧ DepAt Z w t0 t1 r.tool ∧ DepsAt Z w b0 r.build ∧ DepsAt Z w r0 r.run
structure Keep (Z Z' : Zone) (w w' : World) : Prop where
 zone : ∀ b, b < w.heap.size → Z b → Z' b
 size : w.heap.size ≤ w'.heap.size
 cell : ∀ a u, Z a.block → w.cell? a = some u → w'.cell? a = some u
theorem Keep.below {Z : Zone} {w w' : World} (h : Below w.heap.size w w') : Keep Z Z w w' := ⟨fun _ _ h => h, h.size, fun a u _ hc => bkp h a u hc⟩
theorem Keep.of_block {Z Z' : Zone} {w w' : World} (hz : ∀ b, b < w.heap.size → Z b → Z' b) (hs : w.heap.size ≤ w'.heap.size) (hb : ∀ b, b < w.heap.size → Z b → w'.heap[b]? = w.heap[b]?) : Keep Z Z' w w' :=
 ⟨hz, hs, fun a u ha hc => (World.cell?_of_block (hb a.block (cell_lt hc) ha)).trans hc⟩
theorem GapsAt.keep {Z Z' : Zone} {w w' : World} (hk : Keep Z Z' w w') {v : Value} {gs : List Gap} (h : GapsAt Z w v gs) : GapsAt Z' w' v gs := by
 obtain ⟨a, c, h1, h2, h3⟩ := h
 refine ⟨a, c, h1, h2, fun hne => ?_⟩
 obtain ⟨b, o, e, hz, hl, hc⟩ := h3 hne
 exact ⟨b, o, e, hk.zone b hl hz, Nat.lt_of_lt_of_le hl hk.size, fun i g hi => ⟨hk.cell _ _ hz (hc i g hi).1, hk.cell _ _ hz (hc i g hi).2⟩⟩
theorem DepAt.keep {Z Z' : Zone} {w w' : World} (hk : Keep Z Z' w w') {v0 v1 : Value} {d : Dp} (h : DepAt Z w v0 v1 d) : DepAt Z' w' v0 v1 d := ⟨h.1, h.2.1, h.2.2.keep hk⟩
theorem DepsAt.keep {Z Z' : Zone} {w w' : World} (hk : Keep Z Z' w w') {v : Value} {ds : List Dp} (h : DepsAt Z w v ds) : DepsAt Z' w' v ds := by
 obtain ⟨a, c, h1, h2, h3⟩ := h
 refine ⟨a, c, h1, h2, fun hne => ?_⟩
 obtain ⟨b, o, e, hz, hl, hc⟩ := h3 hne
 refine ⟨b, o, e, hk.zone b hl hz, Nat.lt_of_lt_of_le hl hk.size, fun i d hi => ?_⟩
 obtain ⟨v0, v1, g0, g1, g2⟩ := hc i d hi
 exact ⟨v0, v1, hk.cell _ _ hz g0, hk.cell _ _ hz g1, g2.keep hk⟩
theorem RecAt.keep {Z Z' : Zone} {w w' : World} (hk : Keep Z Z' w w') {vs : List Value} {r : Rc} (h : RecAt Z w vs r) : RecAt Z' w' vs r := by
 obtain ⟨t0, t1, b0, r0, h1, h2, h3, h4, h5⟩ := h
 exact ⟨t0, t1, b0, r0, h1, h2, h3.keep hk, h4.keep hk, h5.keep hk⟩
theorem GapsAt.below {Z : Zone} {w w' : World} {v : Value} {gs : List Gap} (h : GapsAt Z w v gs) (hb : Below w.heap.size w w') : GapsAt Z w' v gs := h.keep (Keep.below hb)
theorem DepAt.below {Z : Zone} {w w' : World} {v0 v1 : Value} {d : Dp} (h : DepAt Z w v0 v1 d) (hb : Below w.heap.size w w') : DepAt Z w' v0 v1 d := h.keep (Keep.below hb)
theorem DepsAt.below {Z : Zone} {w w' : World} {v : Value} {ds : List Dp} (h : DepsAt Z w v ds) (hb : Below w.heap.size w w') : DepsAt Z w' v ds := h.keep (Keep.below hb)
theorem RecAt.below {Z : Zone} {w w' : World} {vs : List Value} {r : Rc} (h : RecAt Z w vs r) (hb : Below w.heap.size w w') : RecAt Z w' vs r := h.keep (Keep.below hb)
theorem GapsAt.all {Z : Zone} {w : World} {v : Value} {gs : List Gap} (h : GapsAt Z w v gs) : GapsAt zAll w v gs := h.keep ⟨fun _ _ _ => trivial, Nat.le_refl _, fun _ _ _ h => h⟩
theorem DepAt.all {Z : Zone} {w : World} {v0 v1 : Value} {d : Dp} (h : DepAt Z w v0 v1 d) : DepAt zAll w v0 v1 d := h.keep ⟨fun _ _ _ => trivial, Nat.le_refl _, fun _ _ _ h => h⟩
theorem DepsAt.all {Z : Zone} {w : World} {v : Value} {ds : List Dp} (h : DepsAt Z w v ds) : DepsAt zAll w v ds := h.keep ⟨fun _ _ _ => trivial, Nat.le_refl _, fun _ _ _ h => h⟩
theorem RecAt.all {Z : Zone} {w : World} {vs : List Value} {r : Rc} (h : RecAt Z w vs r) : RecAt zAll w vs r := h.keep ⟨fun _ _ _ => trivial, Nat.le_refl _, fun _ _ _ h => h⟩
theorem two_block (w : World) (u v : Value) (t : TypeId) : ∃ w1, w.alloc (.cells #[u, v] t) = w1 ∧ Below w.heap.size w w1 ∧ w1.heap[w.heap.size]? = some (.cells #[u, v] t (0, 0)) ∧ w.heap.size + 1 ≤ w1.heap.size ∧ w1.heap.size ≤ w.heap.size + 1 :=
 ⟨_, rfl, (Below.refl _ w).alloc (Nat.le_refl _) _, heap_alloc_new w _, by simp, by simp⟩
theorem one_block (w : World) (u : Value) (t : TypeId) : ∃ w1, w.alloc (.cells #[u] t) = w1 ∧ Below w.heap.size w w1 ∧ w1.heap[w.heap.size]? = some (.cells #[u] t (0, 0)) ∧ w.heap.size + 1 ≤ w1.heap.size ∧ w1.heap.size ≤ w.heap.size + 1 :=
 ⟨_, rfl, (Below.refl _ w).alloc (Nat.le_refl _) _, heap_alloc_new w _, by simp, by simp⟩
theorem aBk (w : World) (xs : Array Value) (t : TypeId) : ∃ w1, w.alloc (.cells xs t) = w1 ∧ Below w.heap.size w w1 ∧ w1.heap[w.heap.size]? = some (.cells xs t (0, 0)) ∧ w.heap.size + 1 ≤ w1.heap.size ∧ w1.heap.size ≤ w.heap.size + 1 :=
 ⟨_, rfl, (Below.refl _ w).alloc (Nat.le_refl _) _, heap_alloc_new w _, by simp, by simp⟩
theorem rise_at {L : Int} {gs : List Gap} {k : Nat} {g : Gap} (h : gs[k]? = some g) : rise L (gs.drop k) = (decide (L < g.1 ∧ g.1 < g.2 ∧ g.2 ≤ 1000000000) && rise g.2 (gs.drop (k + 1))) := by
 rw [List.drop_eq_getElem_cons (gEs.1 h).1, (gEs.1 h).2]
 rfl
theorem drop_end {α : Type} {l : List α} {k : Nat} (h : l.length ≤ k) : l.drop k = [] := List.drop_eq_nil_of_le h
theorem sgood_any (w : World) (Z : Zone) (v : Value) (gs : List Gap) (h : GapsAt Z w v gs) :
  Calls Tryz.prog 102 #[v] w (fun e w' => e = .returned (.bool (rangeB gs)) ∧ Below w.heap.size w w') := by
 obtain ⟨a, c, rfl, hb, hc⟩ := h
 obtain ⟨n, hnn⟩ : ∃ n, n = gs.length := ⟨_, rfl⟩
 obtain ⟨R, hR⟩ : ∃ R, R = rangeB gs := ⟨_, rfl⟩
 rw [← hR]
 unfold rangeB at hR
 rw [← hnn] at hb hR ⊢
 have hnl : n ≤ 8796093022208 := hb.max
 have HN := hdL hnn; have HR := hdL hR; have HC := hdL hc
 clear hnn hR hc hb
 go_enter Tryz.func102, Tryz.ntmps102
 go_wp2_with fail
 go_loopw [3, 8] (fun y x wr => ∃ (k : Nat) (L : Int), y = .int .i64 L ∧ x = .int .i64 k ∧ k ≤ n ∧ Hid (rise (-1) gs = rise L (gs.drop k)) ∧ Hid (Below w.heap.size w wr)) (fun _ x _ => n - (intOf x).toNat)
 case atStart => exact ⟨0, -1, rfl, rfl, Nat.zero_le _, rfl, Below.refl _ _⟩
 case round =>
  obtain ⟨k, L, rfl, rfl, hkn, hrs, hbw⟩ := hrel
  by_cases hlt : k < n
  ·obtain ⟨g, hg⟩ : ∃ g, gs[k]? = some g := ⟨_, gEg (by rw [← HN.out]; exact hlt)⟩
   obtain ⟨b, o, rfl, _, _, hcs⟩ := HC.out (fun e => by rw [e] at hg; cases hg)
   obtain ⟨c0, c1⟩ := hcs k g hg
   have c0 := bkp hbw.out _ _ c0
   have c1 := bkp hbw.out _ _ c1
   have hra := rise_at (L := L) hg
   obtain ⟨lo, hi⟩ := g
   dsimp only at c0 c1 hra
   obtain ⟨w3, hw3, hb3, hgx, _, _⟩ := two_block wr (.int .i64 lo) (.int .i64 hi) 125
   obtain ⟨g0, g1⟩ := cells2 hgx
   have HB4 := hdL (hbw.out.trans (hb3.mono hbw.out.size))
   have HRA := hdL (hrs.out.trans hra)
   clear hcs hgx hb3 hg hra
   have hbad : ¬ (L < lo ∧ lo < hi ∧ hi ≤ 1000000000) → R = false := fun hn => by
    rw [HR.out, HRA.out, decide_eq_false hn]
    rfl
   have HBAD := hdL hbad
   clear hbad
   by_cases h1 : lo ≤ L
   ·have HRF := hdL (HBAD.out (by omega))
    go_wp2_with fail
    go_ret
    exact ⟨by (rw [HRF.out]; rfl), HB4.out⟩
   ·by_cases h2 : hi ≤ lo
    ·have HRF := hdL (HBAD.out (by omega))
     go_wp2_with fail
     go_ret
     exact ⟨by (rw [HRF.out]; rfl), HB4.out⟩
    ·by_cases h3 : 1000000000 < hi
     ·have HRF := hdL (HBAD.out (by omega))
      go_wp2_with fail
      go_ret
      exact ⟨by (rw [HRF.out]; rfl), HB4.out⟩
     ·have HR2 := hdL (show rise (-1) gs = rise hi (gs.drop (k + 1)) by rw [HRA.out, decide_eq_true (by omega)]; rfl)
      go_wp2_with fail
      go_roundw
      case rel => exact ⟨k + 1, hi, rfl, by go_num, hlt, HR2, HB4⟩
      case measure => simp [intOf]; omega
  ·obtain rfl : k = n := by omega
   have HRF := hdL (show R = decide (k ≤ 16) by rw [HR.out, hrs.out, drop_end (by rw [← HN.out]; omega)]; rfl)
   by_cases h16 : k ≤ 16
   ·have h16' : (k : Int) ≤ 16 := by omega
    go_wp2_with fail
    go_ret
    exact ⟨by (rw [HRF.out, decide_eq_true h16]; first | rfl | simp), hbw.out⟩
   ·have h16' : ¬ (k : Int) ≤ 16 := by omega
    go_wp2_with fail
    go_ret
    exact ⟨by (rw [HRF.out, decide_eq_false h16]; first | rfl | simp), hbw.out⟩
theorem shas1_any (w : World) (B : Nat) (n lo hi : Int) (hB : w.cell? ⟨B, 0, none⟩ = some (.int .i64 n)) :
  Calls Tryz.prog 185 #[.agg #[.int .i64 lo, .int .i64 hi], .pointer (some ⟨B, 0, none⟩)] w (fun e w' => e = .returned (.bool (decide (lo ≤ n ∧ n < hi))) ∧ Below w.heap.size w w') := by
 obtain ⟨w1, hw1, hb1, hx1, _, _⟩ := two_block w (.int .i64 lo) (.int .i64 hi) 125
 obtain ⟨g0, g1⟩ := cells2 hx1
 have hB1 := bkp hb1 _ _ hB
 have HB := hdL hb1
 clear hx1 hb1 hB
 by_cases h1 : lo ≤ n
 ·by_cases h2 : n < hi
  ·have HD := hdL (show decide (lo ≤ n ∧ n < hi) = true from decide_eq_true ⟨h1, h2⟩)
   rw [HD.out]
   go_enter Tryz.func185, Tryz.ntmps185
   go_wp2_with fail
   go_ret
   exact ⟨rfl, HB.out⟩
  ·have HD := hdL (show decide (lo ≤ n ∧ n < hi) = false from decide_eq_false (fun h => h2 h.2))
   rw [HD.out]
   go_enter Tryz.func185, Tryz.ntmps185
   go_wp2_with fail
   go_ret
   exact ⟨by first | rfl | simp [h2], HB.out⟩
 ·have HD := hdL (show decide (lo ≤ n ∧ n < hi) = false from decide_eq_false (fun h => h1 h.1))
  rw [HD.out]
  go_enter Tryz.func185, Tryz.ntmps185
  go_wp2_with fail
  go_ret
  exact ⟨rfl, HB.out⟩
def gapB (n : Int) (g : Gap) : Bool := decide (g.1 ≤ n ∧ n < g.2)
theorem inGaps_eq (gs : List Gap) (n : Int) : inGaps gs n = gs.any (gapB n) := rfl
theorem any_takes {α : Type} {P : α → Bool} {l : List α} {k : Nat} {x : α} (h : (l.take k).any P = false) (hx : l[k]? = some x) (hp : P x = false) : (l.take (k + 1)).any P = false := by
 rw [List.take_add_one, hx, List.any_append, h]
 simp [hp]
theorem any_yes {α : Type} {P : α → Bool} {l : List α} {k : Nat} {x : α} (hx : l[k]? = some x) (hp : P x = true) : l.any P = true := List.any_eq_true.2 ⟨x, List.mem_of_getElem? hx, hp⟩
theorem gidx_any (w : World) (Z : Zone) (v : Value) (gs : List Gap) (h : GapsAt Z w v gs) (B : Nat) (q : Int) (hB : w.cell? ⟨B, 0, none⟩ = some (.int .i64 q)) :
  Calls Tryz.prog 192 #[v, .func (.func 185) #[] #[.pointer (some ⟨B, 0, none⟩)]] w (fun e w' => (∃ i : Int, e = .returned (.int .i64 i) ∧ decide (0 ≤ i) = inGaps gs q) ∧ Below w.heap.size w w') := by
 obtain ⟨a, c, rfl, hb, hc⟩ := h
 obtain ⟨n, hnn⟩ : ∃ n, n = gs.length := ⟨_, rfl⟩
 obtain ⟨R, hR⟩ : ∃ R, R = inGaps gs q := ⟨_, rfl⟩
 rw [← hR]
 rw [inGaps_eq] at hR
 rw [← hnn] at hb ⊢
 have hnl : n ≤ 8796093022208 := hb.max
 have HN := hdL hnn; have HR := hdL hR; have HC := hdL hc; have HQ := hdL hB
 clear hnn hR hc hb hB
 go_enter Tryz.func192, Tryz.ntmps192
 go_wp2_with fail
 go_loopw [8] (fun x wr => ∃ k : Nat, x = .int .i64 k ∧ k ≤ n ∧ Hid ((gs.take k).any (gapB q) = false) ∧ Hid (Below w.heap.size w wr)) (fun x _ => n - (intOf x).toNat)
 case atStart => exact ⟨0, rfl, Nat.zero_le _, rfl, Below.refl _ _⟩
 case round =>
  obtain ⟨k, rfl, hkn, hno, hbw⟩ := hrel
  by_cases hlt : k < n
  ·obtain ⟨g, hg⟩ : ∃ g, gs[k]? = some g := ⟨_, gEg (by rw [← HN.out]; exact hlt)⟩
   obtain ⟨b, o, rfl, _, _, hcs⟩ := HC.out (fun e => by rw [e] at hg; cases hg)
   obtain ⟨c0, c1⟩ := hcs k g hg
   have c0 := bkp hbw.out _ _ c0
   have c1 := bkp hbw.out _ _ c1
   have hcl := shas1_any wr B q g.1 g.2 (bkp hbw.out _ _ HQ.out)
   change Calls _ _ _ _ (fun e w' => e = .returned (.bool (gapB q g)) ∧ _) at hcl
   obtain ⟨lo, hlo⟩ : ∃ x, x = g.1 := ⟨_, rfl⟩
   obtain ⟨hi, hhi⟩ : ∃ x, x = g.2 := ⟨_, rfl⟩
   rw [← hlo] at c0 hcl; rw [← hhi] at c1 hcl
   have HG := hdL hg
   clear hcs hg hlo hhi
   cases hp : gapB q g
   ·rw [hp] at hcl
    have HCL := hdL hcl; have HNO := hdL (any_takes hno.out HG.out hp)
    clear hcl hp
    go_wp2_with fail
    refine HCL.out.mono ?_
    rintro e w3 ⟨rfl, h3⟩
    have H3 := hdL (hbw.out.trans (h3.mono hbw.out.size))
    clear h3
    go_wp2_with fail
    go_roundw
    case rel => exact ⟨k + 1, by go_num, hlt, HNO, H3⟩
    case measure => simp [intOf]; omega
   ·rw [hp] at hcl
    have HCL := hdL hcl; have HY := hdL (show R = true by rw [HR.out]; exact any_yes HG.out hp)
    clear hcl hp
    go_wp2_with fail
    refine HCL.out.mono ?_
    rintro e w3 ⟨rfl, h3⟩
    have H3 := hdL (hbw.out.trans (h3.mono hbw.out.size))
    clear h3
    go_wp2_with fail
    go_ret
    exact ⟨⟨k, rfl, by rw [HY.out]; simp⟩, H3.out⟩
  ·obtain rfl : k = n := by omega
   have HY := hdL (show R = false by
    have := hno.out
    rw [tLe (by rw [← HN.out]; omega)] at this
    rw [HR.out]; exact this)
   go_wp2_with fail
   go_ret
   exact ⟨⟨-1, rfl, by rw [HY.out]; rfl⟩, hbw.out⟩
theorem gcon_any (w : World) (Z : Zone) (v : Value) (gs : List Gap) (h : GapsAt Z w v gs) (B : Nat) (q : Int) (hB : w.cell? ⟨B, 0, none⟩ = some (.int .i64 q)) :
  Calls Tryz.prog 184 #[v, .func (.func 185) #[] #[.pointer (some ⟨B, 0, none⟩)]] w (fun e w' => e = .returned (.bool (inGaps gs q)) ∧ Below w.heap.size w w') := by
 have HI := hdL (gidx_any w Z v gs h B q hB)
 clear h hB
 go_enter Tryz.func184, Tryz.ntmps184
 go_wp2_with fail
 refine HI.out.mono ?_
 rintro e w3 ⟨⟨i, rfl, hi⟩, h3⟩
 have H3 := hdL h3; have HE := hdL hi
 clear h3 hi
 go_wp2_with fail
 go_ret
 exact ⟨by (rw [← HE.out]; rfl), H3.out⟩
theorem shas_any (w : World) (Z : Zone) (v : Value) (gs : List Gap) (u : Ver) (h : GapsAt Z w v gs) :
  Calls Tryz.prog 156 #[v, .agg #[.int .i64 u.1, .int .i64 u.2.1, .int .i64 u.2.2]] w (fun e w' => e = .returned (.bool (spanHas gs u)) ∧ Below w.heap.size w w') := by
 obtain ⟨w1, hw1, hb1, hx1, _, _⟩ := aBk w #[.int .i64 u.1, .int .i64 u.2.1, .int .i64 u.2.2] 39
 have hN := vnum_any w1 u
 obtain ⟨q, hq⟩ : ∃ q, q = verNum u := ⟨_, rfl⟩
 rw [← hq] at hN
 have hsp : spanHas gs u = (decide (0 ≤ q) && inGaps gs q) := by
  unfold spanHas
  rw [← hq]
  cases hg : verGood u
  ·have : q = -1 := by rw [hq]; unfold verNum; rw [if_neg (by rw [hg]; simp)]
   rw [this]
   rfl
  ·rw [decide_eq_true (show 0 ≤ q by rw [hq]; exact (verNum_lt hg).1)]
 obtain ⟨R, hR⟩ : ∃ R, R = spanHas gs u := ⟨_, rfl⟩
 rw [← hR]
 rw [← hR] at hsp
 obtain ⟨u0, hu0⟩ : ∃ x, x = u.1 := ⟨_, rfl⟩
 obtain ⟨u1, hu1⟩ : ∃ x, x = u.2.1 := ⟨_, rfl⟩
 obtain ⟨u2, hu2⟩ : ∃ x, x = u.2.2 := ⟨_, rfl⟩
 rw [← hu0, ← hu1, ← hu2] at hN hw1 hx1 ⊢
 obtain ⟨k0, k1, k2⟩ := cells3 hx1
 have HG := hdL h; have HS := hdL hsp; have HN := hdL hN; have HB := hdL hb1
 clear h hsp hN hb1 hx1 hq hR hu0 hu1 hu2
 go_enter Tryz.func156, Tryz.ntmps156
 go_wp2_with fail
 refine HN.out.mono ?_
 rintro e w2 ⟨rfl, h2⟩
 obtain ⟨w3, hw3, hb3, hx3, _, _⟩ := one_block w2 (.int .i64 q) 3
 have q0 := cOh hx3 0
 have h13 := HB.out.trans ((h2.trans (hb3.mono h2.size)).mono HB.out.size)
 have HC := hdL (gcon_any w3 Z v gs (HG.out.below h13) w2.heap.size q q0)
 have H3 := hdL h13
 clear h2 hb3 hx3 h13 k0 k1 k2
 by_cases h0 : 0 ≤ q
 ·have HS2 := hdL (show R = inGaps gs q by rw [HS.out, decide_eq_true h0]; rfl)
  go_wp2_with fail
  refine HC.out.mono ?_
  rintro e w4 ⟨rfl, h4⟩
  have H4 := hdL (H3.out.trans (h4.mono H3.out.size))
  clear h4
  go_wp2_with fail
  go_ret
  exact ⟨by (rw [HS2.out]; rfl), H4.out⟩
 ·have HS2 := hdL (show R = false by rw [HS.out, decide_eq_false h0]; rfl)
  go_wp2_with fail
  go_ret
  exact ⟨by (rw [HS2.out]; rfl), H3.out⟩
end Go.Proofs.YtaagkndhgicifaaGreat
