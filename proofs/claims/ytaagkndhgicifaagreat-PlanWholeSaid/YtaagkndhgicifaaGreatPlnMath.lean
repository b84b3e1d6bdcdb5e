/- DERIVED. What a package needs, among the stages of a stock: the entries that are reached from its own; plans as plain lists. No program in sight. -/
import Derived.Test.YtaagkndhgicifaaGreatSw2
namespace Go.Proofs.YtaagkndhgicifaaGreat
set_option linter.unusedVariables false
def usesB (x : Ent) (q : Pk) : Bool := if x.stage = 0 then false else decide (x.choice.1 = q) || inP x.choice.2 q
def entLt (x y : Ent) : Prop := x.stage < y.stage ∨ (x.stage = y.stage ∧ pkLt x.pkg y.pkg = true)
def SrtE (L : List Ent) : Prop := L.Pairwise entLt
theorem entLt_asymm {x y : Ent} (h : entLt x y) (h' : entLt y x) : False := by
 rcases h with h | ⟨h1, h2⟩ <;> rcases h' with h' | ⟨h3, h4⟩
 ·omega
 ·omega
 ·omega
 ·rw [pkLt_asymm h2] at h4; cases h4
theorem srtE_ext : ∀ {L M : List Ent}, SrtE L → SrtE M → (∀ x, x ∈ L ↔ x ∈ M) → L = M
 | [], [], _, _, _ => rfl
 | [], y :: M, _, _, h => absurd ((h y).2 (mCs ..)) (by simp)
 | x :: L, [], _, _, h => absurd ((h x).1 (mCs ..)) (by simp)
 | x :: L, y :: M, h1, h2, h => by
  obtain ⟨a1, a2⟩ := List.pairwise_cons.1 h1
  obtain ⟨b1, b2⟩ := List.pairwise_cons.1 h2
  have hxy : x = y := by
   rcases List.mem_cons.1 ((h x).1 (mCs ..)) with e | e
   ·exact e
   ·rcases List.mem_cons.1 ((h y).2 (mCs ..)) with e' | e'
    ·exact e'.symm
    ·exact (entLt_asymm (a1 y e') (b1 x e)).elim
  subst hxy
  have irr : ∀ {z}, entLt z z → False := fun hz => entLt_asymm hz hz
  rw [srtE_ext a2 b2 (fun z => ⟨fun hz => by
   rcases List.mem_cons.1 ((h z).1 (mCm _ hz)) with e | e
   ·exact (irr (e ▸ a1 z hz)).elim
   ·exact e, fun hz => by
   rcases List.mem_cons.1 ((h z).2 (mCm _ hz)) with e | e
   ·exact (irr (e ▸ b1 z hz)).elim
   ·exact e⟩)]
theorem roundT_sub {st : St} {pool : List Pk} {left stage : Int} : ∀ (ps : List Pk) (made m : Int) (es : List Ent) (l2 : List Pk), roundT st pool left stage ps made = some (m, es, l2) → (es.map Ent.pkg).Sublist ps ∧ l2.Sublist ps
 | [], made, m, es, l2, h => by
  rw [roundT_nil] at h
  have := sIj h
  injection this with h1 h2
  injection h2 with h2 h3
  subst h2 h3
  exact ⟨List.Sublist.refl _, List.Sublist.refl _⟩
 | p :: ps, made, m, es, l2, h => by
  obtain ⟨⟨c, n, e⟩, hs⟩ : ∃ r, solveT st p pool (max left 0 - made) = r := ⟨_, rfl⟩
  rw [roundT_cons hs] at h
  split at h
  ·cases h
  ·cases hr : roundT st pool left stage ps (made + n) with
   | none => rw [hr] at h; cases h
   | some x =>
    obtain ⟨m2, es2, l3⟩ := x
    rw [hr] at h
    obtain ⟨i1, i2⟩ := roundT_sub ps _ _ _ _ hr
    have := sIj h
    split at this
    ·injection this with h1 h2
     injection h2 with h2 h3
     subst h2 h3
     exact ⟨i1.cons_cons p, i2.cons p⟩
    ·injection this with h1 h2
     injection h2 with h2 h3
     subst h2 h3
     exact ⟨i1.cons p, i2.cons_cons p⟩
theorem srtE_of {es : List Ent} {s : Int} (h : SrtP (es.map Ent.pkg)) (hs : ∀ x ∈ es, x.stage = s) : SrtE es := by
 have h1 := List.pairwise_map.1 h
 exact List.Pairwise.imp_of_mem (fun {a b} ha hb hab => .inr ⟨by rw [hs a ha, hs b hb], hab⟩) h1
theorem fixF_srt {st : St} {left : Int} : ∀ (f : Nat) (stage made : Int) (list : List Ent) (less : List Pk) (L : List Ent) (l : List Pk) (m : Int),
  fixF st left f stage made list less = some (L, l, m) → (∀ x ∈ list, x.stage < stage) → SrtE list → SrtP less → SrtE L ∧ SrtP l
 | 0, _, _, _, _, _, _, _, h, _, _, _ => by cases h
 | f + 1, stage, made, list, less, L, l, m, h, hlt, hso, hle => by
  unfold fixF at h
  cases hr : roundT st (list.map Ent.pkg) left stage less made with
  | none => rw [hr] at h; cases h
  | some x =>
   obtain ⟨m2, es, l2⟩ := x
   rw [hr] at h
   dsimp only at h
   obtain ⟨i1, i2⟩ := roundT_mem _ _ _ _ _ hr
   obtain ⟨s1, s2⟩ := roundT_sub _ _ _ _ _ hr
   by_cases he : es = []
   ·rw [if_pos he] at h
    have := sIj h
    injection this with h1 h2
    injection h2 with h2 h3
    subst h1 h2
    exact ⟨hso, hle.sublist s2⟩
   ·rw [if_neg he] at h
    refine fixF_srt f (stage + 1) m2 (list ++ es) l2 L l m h (fun x hx => ?_) (List.pairwise_append.2 ⟨hso, srtE_of (hle.sublist s1) (fun x hx => (i1 x hx).2.1), fun a ha b hb => .inl ?_⟩) (hle.sublist s2)
    ·rcases List.mem_append.1 hx with hx | hx
     ·have := hlt x hx; omega
     ·have := (i1 x hx).2.1; omega
    ·have := hlt a ha; have := (i1 b hb).2.1; omega
theorem fixT_srt {st : St} {left : Int} {L : List Ent} {l : List Pk} {m : Int} (h : fixT st left = some (L, l, m)) : SrtE L ∧ SrtP l := by
 refine fixF_srt _ _ _ _ _ _ _ _ h (fun x hx => by have := (seeds0_stage x hx).1; omega) (srtE_of ?_ (fun x hx => (seeds0_stage x hx).1)) ((sortP_srt _).sublist List.filter_sublist)
 have : (seeds0 st).map Ent.pkg = st.all.filter st.isSeed := by
  unfold seeds0
  rw [List.map_map]
  exact (List.map_congr_left (fun _ _ => rfl)).trans (List.map_id _)
 rw [this]
 exact (sortP_srt _).sublist List.filter_sublist
structure GoodL (L : List Ent) : Prop where
 srt : SrtE L
 nod : (L.map Ent.pkg).Nodup
 down : ∀ x ∈ L, ∀ q, usesB x q = true → ∃ y ∈ L, y.pkg = q ∧ y.stage < x.stage
theorem holdsB_in {st : St} {p : Pk} {pool : List Pk} {c : Ch5} (h : holdsB st p pool c = true) : c.1 ∈ pool ∧ ∀ q ∈ c.2, q ∈ pool := by
 unfold holdsB at h
 cases hr : st.rec? p with
 | none => rw [hr] at h; cases h
 | some r =>
  rw [hr] at h
  simp only [Bool.and_eq_true, List.all_eq_true] at h
  exact ⟨inP_iff.1 h.1.1.1.1.2, fun q hq => inP_iff.1 (h.2 q hq).1.1⟩
theorem holdsB_pool {st : St} {p : Pk} {pool pool' : List Pk} {c : Ch5} (h : holdsB st p pool c = true) (h1 : c.1 ∈ pool') (h2 : ∀ q ∈ c.2, q ∈ pool') : holdsB st p pool' c = true := by
 unfold holdsB at h ⊢
 cases hr : st.rec? p with
 | none => rw [hr] at h; cases h
 | some r =>
  rw [hr] at h
  simp only [Bool.and_eq_true, List.all_eq_true] at h ⊢
  exact ⟨⟨⟨⟨⟨h.1.1.1.1.1, inP_iff.2 h1⟩, h.1.1.1.2⟩, h.1.1.2⟩, h.1.2⟩, fun q hq => ⟨⟨inP_iff.2 (h2 q hq), (h.2 q hq).1.2⟩, (h.2 q hq).2⟩⟩
theorem usesB_iff {x : Ent} {q : Pk} : usesB x q = true ↔ x.stage ≠ 0 ∧ (x.choice.1 = q ∨ q ∈ x.choice.2) := by
 unfold usesB
 by_cases h : x.stage = 0
 ·simp [h]
 ·rw [if_neg h, Bool.or_eq_true, decide_eq_true_eq, inP_iff]; exact ⟨fun g => ⟨h, g⟩, fun g => g.2⟩
theorem fixT_good {st : St} {left : Int} {L : List Ent} {l : List Pk} {m : Int} (h : fixT st left = some (L, l, m)) : GoodL L := by
 have hr := fixT_res h
 refine ⟨(fixT_srt h).1, (List.nodup_append.1 hr.nodup).1, fun x hx q hq => ?_⟩
 obtain ⟨h0, hu⟩ := usesB_iff.1 hq
 rcases hr.holds hx with ⟨h1, -⟩ | ⟨-, -, h3⟩
 ·exact absurd h1 h0
 ·obtain ⟨g1, g2⟩ := holdsB_in h3
  have hm : q ∈ poolE L x.stage := by
   rcases hu with rfl | hu
   ·exact g1
   ·exact g2 q hu
  obtain ⟨y, hy, hs, hp⟩ := mem_poolE.1 hm
  exact ⟨y, hy, hp, hs⟩
theorem GoodL.inj {L : List Ent} (h : GoodL L) {x y : Ent} (hx : x ∈ L) (hy : y ∈ L) (he : x.pkg = y.pkg) : x = y := by
 obtain ⟨i, hi⟩ := List.mem_iff_getElem?.1 hx
 obtain ⟨j, hj⟩ := List.mem_iff_getElem?.1 hy
 obtain ⟨hi1, hi2⟩ := gEs.1 hi
 obtain ⟨hj1, hj2⟩ := gEs.1 hj
 have h3 : (L.map Ent.pkg)[i]'(by rw [List.length_map]; exact hi1) = (L.map Ent.pkg)[j]'(by rw [List.length_map]; exact hj1) := by rw [List.getElem_map, List.getElem_map, hi2, hj2]; exact he
 have : i = j := (List.getElem_inj h.nod).1 h3
 subst this
 rw [hi] at hj
 exact sIj hj
inductive Rch (L : List Ent) (p : Pk) : Ent → Prop
 | here {x : Ent} : x ∈ L → x.pkg = p → Rch L p x
 | step {x y : Ent} : Rch L p y → x ∈ L → usesB y x.pkg = true → Rch L p x
theorem Rch.mem {L : List Ent} {p : Pk} {x : Ent} (h : Rch L p x) : x ∈ L := by cases h <;> assumption
theorem Rch.trans {L : List Ent} {p q : Pk} {x y : Ent} (hx : Rch L p x) (hq : x.pkg = q) (h : GoodL L) (hy : Rch L q y) : Rch L p y := by
 induction hy with
 | here hm he => rw [h.inj hm hx.mem (he.trans hq.symm)]; exact hx
 | step _ hm hu ih => exact .step ih hm hu
open Classical in
noncomputable def needT (L : List Ent) (p : Pk) : List Ent := L.filter fun x => decide (Rch L p x)
theorem mem_needT {L : List Ent} {p : Pk} {x : Ent} : x ∈ needT L p ↔ Rch L p x := by
 unfold needT
 rw [List.mem_filter]
 simp only [decide_eq_true_eq]
 exact ⟨fun h => h.2, fun h => ⟨h.mem, h⟩⟩
theorem needT_sub (L : List Ent) (p : Pk) : (needT L p).Sublist L := List.filter_sublist
theorem GoodL.need {L : List Ent} (h : GoodL L) (p : Pk) : SrtE (needT L p) := h.srt.sublist (needT_sub L p)
def stepR (p : Pk) (out : List Ent) (e : Ent) : List Ent := if (decide (e.pkg = p) || out.any (fun x => usesB x e.pkg)) && !(out.any fun x => decide (x.pkg = e.pkg)) then e :: out else out
open Classical in
theorem stepR_need {L : List Ent} (h : GoodL L) (p : Pk) {A B : List Ent} {e : Ent} (hL : L = A ++ e :: B) : stepR p (B.filter fun x => decide (Rch L p x)) e = (e :: B).filter fun x => decide (Rch L p x) := by
 have he : e ∈ L := by rw [hL]; exact List.mem_append_right _ (mCs ..)
 have hB : ∀ x ∈ B, x ∈ L := fun x hx => by rw [hL]; exact List.mem_append_right _ (mCm _ hx)
 have hs := h.srt
 have hA : ∀ x ∈ A, entLt x e := fun x hx => by
  unfold SrtE at hs
  rw [hL] at hs
  exact (List.pairwise_append.1 hs).2.2 x hx e (mCs ..)
 have heB : ∀ x ∈ B, entLt e x := by
  unfold SrtE at hs
  rw [hL] at hs
  exact (List.pairwise_cons.1 (List.pairwise_append.1 hs).2.1).1
 have hn : ((B.filter fun x => decide (Rch L p x)).any fun x => decide (x.pkg = e.pkg)) = false := by
  rw [Bool.eq_false_iff]
  intro hc
  obtain ⟨x, hx, hxe⟩ := List.any_eq_true.1 hc
  have hxB := (List.mem_filter.1 hx).1
  have := h.inj (hB x hxB) he (by simpa using hxe)
  rw [this] at hxB
  exact entLt_asymm (heB e hxB) (heB e hxB)
 have hiff : (decide (e.pkg = p) || (B.filter fun x => decide (Rch L p x)).any (fun x => usesB x e.pkg)) = decide (Rch L p e) := by
  rw [Bool.eq_iff_iff, Bool.or_eq_true, decide_eq_true_eq, decide_eq_true_eq, List.any_eq_true]
  constructor
  ·rintro (h1 | ⟨x, hx, hu⟩)
   ·exact .here he h1
   ·exact .step (by simpa using (List.mem_filter.1 hx).2) he hu
  ·intro hr
   cases hr with
   | here _ h1 => exact .inl h1
   | @step _ y hy _ hu =>
    refine .inr ⟨y, List.mem_filter.2 ⟨?_, by simpa using hy⟩, hu⟩
    obtain ⟨z, hz, hzp, hzs⟩ := h.down y hy.mem _ hu
    have hze := h.inj hz he hzp
    subst hze
    have hym := hy.mem
    rw [hL] at hym
    rcases List.mem_append.1 hym with hA' | hB'
    ·rcases hA y hA' with g | ⟨g, -⟩ <;> omega
    ·rcases List.mem_cons.1 hB' with g | g
     ·rw [g] at hzs; omega
     ·exact g
 unfold stepR
 rw [hn, hiff, List.filter_cons]
 by_cases hr : Rch L p e
 ·simp [hr]
 ·simp [hr]
open Classical in
noncomputable def tailT (L : List Ent) (p : Pk) (k : Nat) : List Ent := (L.drop k).filter fun x => decide (Rch L p x)
theorem tailT_zero (L : List Ent) (p : Pk) : tailT L p 0 = needT L p := by unfold tailT needT; rw [List.drop_zero]
theorem tailT_end {L : List Ent} {p : Pk} {k : Nat} (h : L.length ≤ k) : tailT L p k = [] := by unfold tailT; rw [List.drop_of_length_le h]; rfl
theorem tailT_len (L : List Ent) (p : Pk) (k : Nat) : (tailT L p k).length ≤ L.length := by
 unfold tailT
 refine Nat.le_trans (List.length_filter_le _ _) ?_
 rw [List.length_drop]; omega
theorem tailT_step {L : List Ent} (h : GoodL L) (p : Pk) {k : Nat} {e : Ent} (hk : L[k]? = some e) : tailT L p k = stepR p (tailT L p (k + 1)) e := by
 have hd : L.drop k = e :: L.drop (k + 1) := by rw [List.drop_eq_getElem_cons (gEs.1 hk).1, (gEs.1 hk).2]
 have hL : L = L.take k ++ e :: L.drop (k + 1) := by rw [← hd, List.take_append_drop]
 have := stepR_need h p hL
 unfold tailT
 rw [hd, this]
theorem stepR_no {p : Pk} {out : List Ent} {e : Ent} (h : (decide (e.pkg = p) || out.any fun x => usesB x e.pkg) = false) : stepR p out e = out := by unfold stepR; rw [h]; rfl
theorem stepR_in {p : Pk} {out : List Ent} {e : Ent} (h : (out.any fun x => decide (x.pkg = e.pkg)) = true) : stepR p out e = out := by unfold stepR; rw [h]; simp
theorem stepR_yes {p : Pk} {out : List Ent} {e : Ent} (h1 : (decide (e.pkg = p) || out.any fun x => usesB x e.pkg) = true) (h : (out.any fun x => decide (x.pkg = e.pkg)) = false) : stepR p out e = e :: out := by unfold stepR; rw [h1, h]; rfl
structure Walk (L : List Ent) (p : Pk) (i : Nat) (out : List Ent) : Prop where
 own : ∃ x, out[0]? = some x ∧ x.pkg = p
 rch : ∀ x ∈ out, Rch L p x
 nod : (out.map Ent.pkg).Nodup
 done : ∀ j x, j < i → out[j]? = some x → ∀ q, usesB x q = true → q ∈ out.map Ent.pkg
theorem Walk.start {L : List Ent} {p : Pk} {x : Ent} (hx : x ∈ L) (hp : x.pkg = p) : Walk L p 0 [x] :=
 ⟨⟨x, rfl, hp⟩, fun y hy => by rw [mSg.1 hy]; exact .here hx hp, by simp, fun j _ hj => absurd hj (Nat.not_lt_zero _)⟩
theorem Walk.push {L : List Ent} {p : Pk} {i : Nat} {out : List Ent} {x y : Ent} (h : Walk L p i out) (hi : i < out.length) (hx : x ∈ out) (hu : usesB x y.pkg = true) (hy : y ∈ L) (hn : y.pkg ∉ out.map Ent.pkg) : Walk L p i (out ++ [y]) := by
 obtain ⟨z, hz, hzp⟩ := h.own
 refine ⟨⟨z, by rw [List.getElem?_append_left (by omega)]; exact hz, hzp⟩, fun w hw => ?_, ?_, fun j w hj hw q hq => ?_⟩
 ·rcases List.mem_append.1 hw with hw | hw
  ·exact h.rch w hw
  ·rw [mSg.1 hw]; exact .step (h.rch x hx) hy hu
 ·rw [List.map_append]
  refine List.nodup_append.2 ⟨h.nod, by simp, fun a ha b hb => ?_⟩
  rintro rfl
  rw [List.map_singleton, mSg] at hb
  exact hn (hb ▸ ha)
 ·rw [List.getElem?_append_left (by omega)] at hw
  rw [List.map_append]
  exact List.mem_append_left _ (h.done j w hj hw q hq)
theorem Walk.next {L : List Ent} {p : Pk} {i : Nat} {out : List Ent} {x : Ent} (h : Walk L p i out) (hx : out[i]? = some x) (hd : ∀ q, usesB x q = true → q ∈ out.map Ent.pkg) : Walk L p (i + 1) out :=
 ⟨h.own, h.rch, h.nod, fun j w hj hw q hq => by
  rcases Nat.lt_or_ge j i with g | g
  ·exact h.done j w g hw q hq
  ·obtain rfl : j = i := by omega
   rw [hx] at hw
   obtain rfl := sIj hw
   exact hd q hq⟩
theorem Walk.len {L : List Ent} {p : Pk} {i : Nat} {out : List Ent} (h : Walk L p i out) : out.length ≤ L.length := by
 have := List.Nodup.length_le_of_subset (l₂ := L.map Ent.pkg) h.nod (fun q hq => by
  obtain ⟨x, hx, rfl⟩ := List.mem_map.1 hq
  exact List.mem_map.2 ⟨x, (h.rch x hx).mem, rfl⟩)
 rwa [List.length_map, List.length_map] at this
theorem Walk.mem {L : List Ent} {p : Pk} {i : Nat} {out : List Ent} (h : Walk L p i out) (hg : GoodL L) (hi : out.length ≤ i) (x : Ent) : x ∈ out ↔ Rch L p x := by
 have key : ∀ {x}, x ∈ L → x.pkg ∈ out.map Ent.pkg → x ∈ out := fun {x} hx hm => by
  obtain ⟨y, hy, he⟩ := List.mem_map.1 hm
  rw [← hg.inj (h.rch y hy).mem hx he]
  exact hy
 refine ⟨h.rch x, fun hr => ?_⟩
 induction hr with
 | here hm he =>
  obtain ⟨z, hz, hzp⟩ := h.own
  exact key hm (List.mem_map.2 ⟨z, List.mem_of_getElem? hz, hzp.trans he.symm⟩)
 | step _ hm hu ih =>
  obtain ⟨j, hj⟩ := List.mem_iff_getElem?.1 ih
  exact key hm (h.done j _ (Nat.lt_of_lt_of_le (gEs.1 hj).1 hi) hj _ hu)
theorem Walk.sorted {L : List Ent} {p : Pk} {i : Nat} {out M : List Ent} (h : Walk L p i out) (hg : GoodL L) (hi : out.length ≤ i) (hs : SrtE M) (hp : M.Perm out) : M = needT L p :=
 srtE_ext hs (hg.need p) (fun x => by rw [hp.mem_iff, h.mem hg hi, mem_needT])
noncomputable def planT (st : St) (p : Pk) (left : Int) : List Ent × List Pk × Int :=
 if st.has p = false then ([], [], 14) else match fixT st left with
 | none => ([], [], 60)
 | some (L, l, _) => if p ∈ L.map Ent.pkg then (needT L p, [], 0) else ([], l, 61)
end Go.Proofs.YtaagkndhgicifaaGreat
