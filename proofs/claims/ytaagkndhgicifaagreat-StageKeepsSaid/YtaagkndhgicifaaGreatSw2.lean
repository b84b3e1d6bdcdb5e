/- DERIVED. Texts of this claim, put together: StgMath, StgTr, StgCmp. -/
import Derived.Test.YtaagkndhgicifaaGreatSolLaw
namespace Go.Proofs.YtaagkndhgicifaaGreat
set_option linter.unusedVariables false
structure Ent where
 pkg : Pk
 stage : Int
 choice : Ch5
noncomputable def roundT (st : St) (pool : List Pk) (left stage : Int) : List Pk → Int → Option (Int × List Ent × List Pk)
 | [], made => some (made, [], [])
 | p :: ps, made => match solveT st p pool (max left 0 - made) with
  | (c, n, e) => if e = 60 then none else match roundT st pool left stage ps (made + n) with
   | none => none
   | some (m, es, less) => if e = 0 then some (m, ⟨p, stage, c⟩ :: es, less) else some (m, es, p :: less)
noncomputable def fixF (st : St) (left : Int) : Nat → Int → Int → List Ent → List Pk → Option (List Ent × List Pk × Int)
 | 0, _, _, _, _ => none
 | f + 1, stage, made, list, less => match roundT st (list.map Ent.pkg) left stage less made with
  | none => none
  | some (m, es, l2) => if es = [] then some (list, l2, m) else fixF st left f (stage + 1) m (list ++ es) l2
theorem roundT_len {st : St} {pool : List Pk} {left stage : Int} : ∀ (ps : List Pk) (made m : Int) (es : List Ent) (l2 : List Pk), roundT st pool left stage ps made = some (m, es, l2) → es.length + l2.length = ps.length
 | [], made, m, es, l2, h => by
  unfold roundT at h
  have := sIj h
  injection this with h1 h2
  injection h2 with h2 h3
  subst h2 h3
  rfl
 | p :: ps, made, m, es, l2, h => by
  unfold roundT at h
  split at h
  rename_i c n e hs
  split at h
  ·cases h
  ·cases hr : roundT st pool left stage ps (made + n) with
   | none => rw [hr] at h; cases h
   | some x =>
    obtain ⟨m2, es2, l3⟩ := x
    rw [hr] at h
    have ih := roundT_len ps _ _ _ _ hr
    dsimp only at h
    split at h
    ·have := sIj h
     injection this with h1 h2
     injection h2 with h2 h3
     subst h2 h3
     simp only [List.length_cons]
     omega
    ·have := sIj h
     injection this with h1 h2
     injection h2 with h2 h3
     subst h2 h3
     simp only [List.length_cons]
     omega
theorem roundT_mem {st : St} {pool : List Pk} {left stage : Int} : ∀ (ps : List Pk) (made m : Int) (es : List Ent) (l2 : List Pk), roundT st pool left stage ps made = some (m, es, l2) →
  (∀ x ∈ es, x.pkg ∈ ps ∧ x.stage = stage ∧ ∃ lf n, solveT st x.pkg pool lf = (x.choice, n, 0)) ∧ (∀ q ∈ l2, q ∈ ps ∧ ∃ lf c n e, solveT st q pool lf = (c, n, e) ∧ e ≠ 0 ∧ e ≠ 60)
 | [], made, m, es, l2, h => by
  unfold roundT at h
  have := sIj h
  injection this with h1 h2
  injection h2 with h2 h3
  subst h2 h3
  exact ⟨fun x hx => (by cases hx), fun q hq => (by cases hq)⟩
 | p :: ps, made, m, es, l2, h => by
  unfold roundT at h
  split at h
  rename_i c n e hs
  split at h
  ·cases h
  ·rename_i h60
   cases hr : roundT st pool left stage ps (made + n) with
   | none => rw [hr] at h; cases h
   | some x =>
    obtain ⟨m2, es2, l3⟩ := x
    rw [hr] at h
    obtain ⟨i1, i2⟩ := roundT_mem ps _ _ _ _ hr
    dsimp only at h
    split at h
    ·rename_i h0
     have := sIj h
     injection this with h1 h2
     injection h2 with h2 h3
     subst h2 h3
     refine ⟨fun x hx => ?_, fun q hq => ⟨mCm _ (i2 q hq).1, (i2 q hq).2⟩⟩
     rcases List.mem_cons.1 hx with rfl | hx
     ·exact ⟨mCs .., rfl, _, n, by rw [hs, h0]⟩
     ·exact ⟨mCm _ (i1 x hx).1, (i1 x hx).2⟩
    ·rename_i h0
     have := sIj h
     injection this with h1 h2
     injection h2 with h2 h3
     subst h2 h3
     refine ⟨fun x hx => ⟨mCm _ (i1 x hx).1, (i1 x hx).2⟩, fun q hq => ?_⟩
     rcases List.mem_cons.1 hq with rfl | hq
     ·exact ⟨mCs .., _, c, n, e, hs, h0, h60⟩
     ·exact ⟨mCm _ (i2 q hq).1, (i2 q hq).2⟩
theorem solveT_nums {st : St} {p : Pk} {pool : List Pk} {left : Int} {c : Ch5} {n e : Int} (h : solveT st p pool left = (c, n, e)) :
  0 ≤ n ∧ (left < 1 → n = 0) ∧ n ≤ max left 0 ∧ (e = 0 ∨ e = 12 ∨ e = 14 ∨ e = 60) ∧ (e = 14 ↔ st.rec? p = none) := by
 unfold solveT at h
 cases hr : st.rec? p with
 | none => rw [hr] at h; injection h with h1 h2; injection h2 with h2 h3; subst h2 h3; exact ⟨Int.le_refl _, fun _ => rfl, by omega, by omega, by simp⟩
 | some r =>
  rw [hr] at h
  dsimp only at h
  cases hf : st.fitsP pool r.tool with
  | nil => rw [hf] at h; injection h with h1 h2; injection h2 with h2 h3; subst h2 h3; exact ⟨Int.le_refl _, fun _ => rfl, by omega, by omega, by simp⟩
  | cons t ts =>
   rw [hf] at h
   dsimp only at h
   by_cases hl : left < 1
   ·rw [if_pos hl] at h; injection h with h1 h2; injection h2 with h2 h3; subst h2 h3; exact ⟨Int.le_refl _, fun _ => rfl, by omega, by omega, by simp⟩
   ·rw [if_neg hl] at h
    obtain ⟨m, hm, hle⟩ := meet_some (st.fitsP pool) st.runs (left - 1).toNat r.build []
    generalize meet (st.fitsP pool) st.runs (left - 1).toNat r.build [] = res at h hm hle
    obtain ⟨res, b⟩ := res
    dsimp only at hle
    cases res with
    | ok ch => injection h with h1 h2; injection h2 with h2 h3; subst h2 h3; exact ⟨by omega, by omega, by omega, by omega, by simp⟩
    | clash => injection h with h1 h2; injection h2 with h2 h3; subst h2 h3; exact ⟨by omega, by omega, by omega, by omega, by simp⟩
    | budget => injection h with h1 h2; injection h2 with h2 h3; subst h2 h3; exact ⟨by omega, by omega, by omega, by omega, by simp⟩
theorem roundT_cons {st : St} {pool : List Pk} {left stage : Int} {p : Pk} {ps : List Pk} {made : Int} {c : Ch5} {n e : Int} (h : solveT st p pool (max left 0 - made) = (c, n, e)) :
  roundT st pool left stage (p :: ps) made = if e = 60 then none else (roundT st pool left stage ps (made + n)).map (fun r => if e = 0 then (r.1, ⟨p, stage, c⟩ :: r.2.1, r.2.2) else (r.1, r.2.1, p :: r.2.2)) := by
 conv => lhs; unfold roundT
 rw [h]
 dsimp only
 split
 ·rfl
 ·cases roundT st pool left stage ps (made + n) with
  | none => rfl
  | some x => obtain ⟨m, es, l2⟩ := x; dsimp only [Option.map]; split <;> rfl
theorem roundT_nil {st : St} {pool : List Pk} {left stage : Int} {made : Int} : roundT st pool left stage [] made = some (made, [], []) := by unfold roundT; rfl
theorem roundT_made {st : St} {pool : List Pk} {left stage : Int} : ∀ (ps : List Pk) (made m : Int) (es : List Ent) (l2 : List Pk), roundT st pool left stage ps made = some (m, es, l2) → 0 ≤ made → made ≤ max left 0 → made ≤ m ∧ m ≤ max left 0
 | [], made, m, es, l2, h, h0, h1 => by
  rw [roundT_nil] at h
  have := sIj h
  injection this with h2 h3
  subst h2
  exact ⟨Int.le_refl _, h1⟩
 | p :: ps, made, m, es, l2, h, h0, h1 => by
  obtain ⟨⟨c, n, e⟩, hs⟩ : ∃ r, solveT st p pool (max left 0 - made) = r := ⟨_, rfl⟩
  rw [roundT_cons hs] at h
  obtain ⟨n0, -, n1, -⟩ := solveT_nums hs
  split at h
  ·cases h
  ·cases hr : roundT st pool left stage ps (made + n) with
   | none => rw [hr] at h; cases h
   | some x =>
    obtain ⟨m2, es2, l3⟩ := x
    rw [hr] at h
    have ih := roundT_made ps _ _ _ _ hr (by omega) (by omega)
    have := sIj h
    split at this
    ·injection this with h2 h3; dsimp only at h2; omega
    ·injection this with h2 h3; dsimp only at h2; omega
theorem roundT_perm {st : St} {pool : List Pk} {left stage : Int} : ∀ (ps : List Pk) (made m : Int) (es : List Ent) (l2 : List Pk), roundT st pool left stage ps made = some (m, es, l2) → (es.map Ent.pkg ++ l2).Perm ps
 | [], made, m, es, l2, h => by
  rw [roundT_nil] at h
  have := sIj h
  injection this with h1 h2
  injection h2 with h2 h3
  subst h2 h3
  exact List.Perm.refl _
 | p :: ps, made, m, es, l2, h => by
  obtain ⟨⟨c, n, e⟩, hs⟩ : ∃ r, solveT st p pool (max left 0 - made) = r := ⟨_, rfl⟩
  rw [roundT_cons hs] at h
  split at h
  ·cases h
  ·cases hr : roundT st pool left stage ps (made + n) with
   | none => rw [hr] at h; cases h
   | some x =>
    obtain ⟨m2, es2, l3⟩ := x
    rw [hr] at h
    have ih := roundT_perm ps _ _ _ _ hr
    have := sIj h
    split at this
    ·injection this with h1 h2
     injection h2 with h2 h3
     subst h2 h3
     exact ih.cons p
    ·injection this with h1 h2
     injection h2 with h2 h3
     subst h2 h3
     exact List.perm_middle.trans (ih.cons p)
def poolE (L : List Ent) (j : Int) : List Pk := (L.filter fun x => decide (x.stage < j)).map Ent.pkg
theorem mem_poolE {L : List Ent} {j : Int} {q : Pk} : q ∈ poolE L j ↔ ∃ x ∈ L, x.stage < j ∧ x.pkg = q := by
 unfold poolE
 simp only [List.mem_map, List.mem_filter, decide_eq_true_eq]
 constructor
 ·rintro ⟨x, ⟨h1, h2⟩, h3⟩; exact ⟨x, h1, h2, h3⟩
 ·rintro ⟨x, h1, h2, h3⟩; exact ⟨x, ⟨h1, h2⟩, h3⟩
theorem poolE_all {L : List Ent} {j : Int} (h : ∀ x ∈ L, x.stage < j) : poolE L j = L.map Ent.pkg := by
 unfold poolE
 rw [List.filter_eq_self.2 (fun x hx => decide_eq_true (h x hx))]
theorem poolE_app {L M : List Ent} {j : Int} (h : ∀ x ∈ L, x.stage < j) (h' : ∀ x ∈ M, j ≤ x.stage) : poolE (L ++ M) j = L.map Ent.pkg := by
 have h2 : M.filter (fun x => decide (x.stage < j)) = [] := List.filter_eq_nil_iff.2 (fun x hx => by have := h' x hx; simp; exact this)
 have h1 : L.filter (fun x => decide (x.stage < j)) = L := List.filter_eq_self.2 (fun x hx => decide_eq_true (h x hx))
 unfold poolE
 rw [List.filter_append, h1, h2, List.append_nil]
def Fails (st : St) (p : Pk) (pool : List Pk) : Prop := ∃ lf c n e, solveT st p pool lf = (c, n, e) ∧ e ≠ 0 ∧ e ≠ 60
def lastS (L : List Ent) : Int := match L.getLast? with
 | none => 0
 | some x => x.stage
def prevS (L : List Ent) (k : Nat) : Int := lastS (L.take k)
def Steps (L : List Ent) : Prop := ∀ k x, L[k]? = some x → prevS L k ≤ x.stage ∧ x.stage ≤ prevS L k + 1
theorem lastS_snoc (L : List Ent) (x : Ent) : lastS (L ++ [x]) = x.stage := by unfold lastS; simp
theorem Steps.snoc {L : List Ent} {x : Ent} (h : Steps L) (h1 : lastS L ≤ x.stage) (h2 : x.stage ≤ lastS L + 1) : Steps (L ++ [x]) := by
 intro k y hk
 rcases Nat.lt_or_ge k L.length with hl | hl
 ·rw [List.getElem?_append_left hl] at hk
  unfold prevS
  rw [List.take_append_of_le_length (Nat.le_of_lt hl)]
  exact h k y hk
 ·rw [List.getElem?_append_right hl] at hk
  obtain hk0 : k - L.length = 0 := by
   have := (gEs.1 hk).1
   simp at this; omega
  rw [hk0] at hk
  obtain rfl : x = y := by simpa using hk
  obtain rfl : k = L.length := by omega
  unfold prevS
  rw [List.take_append_of_le_length (Nat.le_refl _), List.take_length]
  exact ⟨h1, h2⟩
theorem Steps.app {L : List Ent} {s : Int} : ∀ (es : List Ent), Steps L → (lastS L = s ∨ lastS L = s - 1) → (∀ x ∈ es, x.stage = s) → Steps (L ++ es) ∧ (es ≠ [] → lastS (L ++ es) = s)
 | [], h, _, _ => ⟨by simpa using h, fun h => absurd rfl h⟩
 | x :: es, h, hl, he => by
  have hx := he x (mCs ..)
  have ih := Steps.app (L := L ++ [x]) (s := s) es (h.snoc (by omega) (by omega)) (.inl (by rw [lastS_snoc, hx])) (fun y hy => he y (mCm _ hy))
  rw [List.append_assoc, List.singleton_append] at ih
  refine ⟨ih.1, fun _ => ?_⟩
  cases es with
  | nil => rw [lastS_snoc, hx]
  | cons y es => exact ih.2 (by simp)
structure FixR (st : St) (stage : Int) (list : List Ent) (less : List Pk) (L : List Ent) (l : List Pk) : Prop where
 app : ∃ es, L = list ++ es ∧ ∀ x ∈ es, stage ≤ x.stage
 built : ∀ x ∈ L, x ∈ list ∨ (x.pkg ∈ less ∧ stage ≤ x.stage ∧ (∃ lf n, solveT st x.pkg (poolE L x.stage) lf = (x.choice, n, 0)) ∧ ∀ j, stage ≤ j → j < x.stage → Fails st x.pkg (poolE L j))
 left : ∀ p ∈ l, p ∈ less ∧ ∃ last, stage ≤ last ∧ (∀ x ∈ L, x.stage < last) ∧ ∀ j, stage ≤ j → j ≤ last → Fails st p (poolE L j)
 perm : (L.map Ent.pkg ++ l).Perm (list.map Ent.pkg ++ less)
 steps : Steps L
 sorted : L.Pairwise fun x y => x.stage ≤ y.stage
theorem fixF_res {st : St} {left : Int} : ∀ (f : Nat) (stage made : Int) (list : List Ent) (less : List Pk) (L : List Ent) (l : List Pk) (m : Int),
  fixF st left f stage made list less = some (L, l, m) → (∀ x ∈ list, x.stage < stage) → Steps list → lastS list = stage - 1 → (list.Pairwise fun x y => x.stage ≤ y.stage) → FixR st stage list less L l
 | 0, _, _, _, _, _, _, _, h, _, _, _, _ => by cases h
 | f + 1, stage, made, list, less, L, l, m, h, hlt, hst, hls, hso => by
  unfold fixF at h
  cases hr : roundT st (list.map Ent.pkg) left stage less made with
  | none => rw [hr] at h; cases h
  | some x =>
   obtain ⟨m2, es, l2⟩ := x
   rw [hr] at h
   dsimp only at h
   obtain ⟨i1, i2⟩ := roundT_mem _ _ _ _ _ hr
   have ip := roundT_perm _ _ _ _ _ hr
   by_cases he : es = []
   ·rw [if_pos he] at h
    have := sIj h
    injection this with h1 h2
    injection h2 with h2 h3
    subst h1 h2 he
    refine ⟨⟨[], by simp, fun x hx => by cases hx⟩, fun x hx => .inl hx, fun p hp => ?_, List.Perm.append_left _ (by simpa using ip), hst, hso⟩
    obtain ⟨g1, lf, c, n, e, g2, g3, g4⟩ := i2 p hp
    refine ⟨g1, stage, Int.le_refl _, hlt, fun j hj1 hj2 => ?_⟩
    obtain rfl : j = stage := by omega
    rw [poolE_all hlt]
    exact ⟨lf, c, n, e, g2, g3, g4⟩
   ·rw [if_neg he] at h
    obtain ⟨s1, s2⟩ := Steps.app (s := stage) es hst (.inr hls) (fun x hx => (i1 x hx).2.1)
    have hlt2 : ∀ x ∈ list ++ es, x.stage < stage + 1 := fun x hx => by
     rcases List.mem_append.1 hx with hx | hx
     ·have := hlt x hx; omega
     ·have := (i1 x hx).2.1; omega
    have hso2 : (list ++ es).Pairwise fun x y => x.stage ≤ y.stage := by
     refine List.pairwise_append.2 ⟨hso, List.Pairwise.imp_of_mem (R := fun _ _ => True) (fun {a b} ha hb _ => ?_) (List.pairwise_of_forall (fun _ _ => trivial)), fun a ha b hb => ?_⟩
     ·rw [(i1 a ha).2.1, (i1 b hb).2.1]; exact Int.le_refl _
     ·have := hlt a ha; have := (i1 b hb).2.1; omega
    have ih := fixF_res f (stage + 1) m2 (list ++ es) l2 L l m h hlt2 s1 (by rw [s2 he]; omega) hso2
    obtain ⟨es2, hL, hes2⟩ := ih.app
    have hpool : poolE L stage = list.map Ent.pkg := by
     rw [hL, List.append_assoc]
     refine poolE_app hlt (fun x hx => ?_)
     rcases List.mem_append.1 hx with hx | hx
     ·rw [(i1 x hx).2.1]; exact Int.le_refl _
     ·have := hes2 x hx; omega
    have fail2 : ∀ p ∈ l2, Fails st p (poolE L stage) := fun p hp => by
     obtain ⟨g1, lf, c, n, e, g2, g3, g4⟩ := i2 p hp
     rw [hpool]
     exact ⟨lf, c, n, e, g2, g3, g4⟩
    refine ⟨⟨es ++ es2, by rw [hL, List.append_assoc], fun x hx => ?_⟩, fun x hx => ?_, fun p hp => ?_, ?_, ih.steps, ih.sorted⟩
    ·rcases List.mem_append.1 hx with hx | hx
     ·rw [(i1 x hx).2.1]; exact Int.le_refl _
     ·have := hes2 x hx; omega
    ·rcases ih.built x hx with h1 | ⟨h1, h2, h3, h4⟩
     ·rcases List.mem_append.1 h1 with h1 | h1
      ·exact .inl h1
      ·obtain ⟨g1, g2, lf, n, g3⟩ := i1 x h1
       refine .inr ⟨g1, by omega, ⟨lf, n, by rw [g2, hpool]; exact g3⟩, fun j hj1 hj2 => by omega⟩
     ·refine .inr ⟨(i2 _ h1).1, by omega, h3, fun j hj1 hj2 => ?_⟩
      by_cases hj : j = stage
      ·rw [hj]; exact fail2 _ h1
      ·exact h4 j (by omega) hj2
    ·obtain ⟨h1, last, h2, h3, h4⟩ := ih.left p hp
     refine ⟨(i2 p h1).1, last, by omega, h3, fun j hj1 hj2 => ?_⟩
     by_cases hj : j = stage
     ·rw [hj]; exact fail2 _ h1
     ·exact h4 j (by omega) hj2
    ·refine ih.perm.trans ?_
     rw [List.map_append, List.append_assoc]
     exact List.Perm.append_left _ ip
def seeds0 (st : St) : List Ent := (st.all.filter st.isSeed).map fun p => ⟨p, 0, ch0⟩
def less0 (st : St) : List Pk := st.all.filter fun p => !st.isSeed p
noncomputable def fixT (st : St) (left : Int) : Option (List Ent × List Pk × Int) := fixF st left ((less0 st).length + 1) 1 0 (seeds0 st) (less0 st)
theorem seeds0_stage {st : St} : ∀ x ∈ seeds0 st, x.stage = 0 ∧ st.isSeed x.pkg = true := fun x hx => by
 obtain ⟨p, hp, rfl⟩ := List.mem_map.1 hx
 exact ⟨rfl, (List.mem_filter.1 hp).2⟩
theorem less0_rec {st : St} {p : Pk} (h : p ∈ less0 st) : st.has p = true ∧ st.isSeed p = false ∧ st.rec? p ≠ none := by
 obtain ⟨h1, h2⟩ := List.mem_filter.1 h
 have h3 : st.isSeed p = false := by simpa using h2
 have h4 := St.has_iff.2 (St.mem_all.1 h1)
 refine ⟨h4, h3, fun e => ?_⟩
 unfold St.has at h4
 rw [e, h3] at h4
 cases h4
theorem seeds0_steps (st : St) : Steps (seeds0 st) ∧ lastS (seeds0 st) = 0 ∧ (seeds0 st).Pairwise fun x y => x.stage ≤ y.stage := by
 have h0 : Steps [] := fun k x h => by simp at h
 have h1 : lastS ([] : List Ent) = 0 := rfl
 obtain ⟨g1, g2⟩ := Steps.app (L := []) (s := 0) (seeds0 st) h0 (.inl h1) (fun x hx => (seeds0_stage x hx).1)
 rw [List.nil_append] at g1 g2
 refine ⟨g1, ?_, List.Pairwise.imp_of_mem (R := fun _ _ => True) (fun {a b} ha hb _ => by rw [(seeds0_stage a ha).1, (seeds0_stage b hb).1]; exact Int.le_refl _) (List.pairwise_of_forall (fun _ _ => trivial))⟩
 by_cases he : seeds0 st = []
 ·rw [he]; rfl
 ·exact g2 he
theorem fixT_res {st : St} {left : Int} {L : List Ent} {l : List Pk} {m : Int} (h : fixT st left = some (L, l, m)) : FixR st 1 (seeds0 st) (less0 st) L l := by
 obtain ⟨h1, h2, h3⟩ := seeds0_steps st
 exact fixF_res _ _ _ _ _ _ _ _ h (fun x hx => by have := (seeds0_stage x hx).1; omega) h1 (by rw [h2]; rfl) h3
theorem FixR.all {st : St} {L : List Ent} {l : List Pk} (h : FixR st 1 (seeds0 st) (less0 st) L l) : (L.map Ent.pkg ++ l).Perm st.all := by
 refine h.perm.trans ?_
 have : (seeds0 st).map Ent.pkg = st.all.filter st.isSeed := by
  unfold seeds0
  rw [List.map_map]
  exact (List.map_congr_left (fun _ _ => rfl)).trans (List.map_id _)
 rw [this]
 exact List.filter_append_perm _ _
theorem FixR.nodup {st : St} {L : List Ent} {l : List Pk} (h : FixR st 1 (seeds0 st) (less0 st) L l) : (L.map Ent.pkg ++ l).Nodup :=
 h.all.nodup_iff.2 ((sortP_srt _).imp pkLt_ne)
theorem FixR.holds {st : St} {L : List Ent} {l : List Pk} (h : FixR st 1 (seeds0 st) (less0 st) L l) {x : Ent} (hx : x ∈ L) : (x.stage = 0 ∧ st.isSeed x.pkg = true) ∨ (1 ≤ x.stage ∧ st.isSeed x.pkg = false ∧ holdsB st x.pkg (poolE L x.stage) x.choice = true) := by
 rcases h.built x hx with h1 | ⟨h1, h2, ⟨lf, n, h3⟩, -⟩
 ·exact .inl (seeds0_stage x h1)
 ·exact .inr ⟨h2, (less0_rec h1).2.1, (solve_holds h3).1⟩
theorem FixR.below {st : St} {L : List Ent} {l : List Pk} (h : FixR st 1 (seeds0 st) (less0 st) L l) {k : Nat} {x : Ent} (hk : L[k]? = some x) (hp : prevS L k < x.stage) : (L.take k).map Ent.pkg = poolE L x.stage := by
 have hlen := (gEs.1 hk).1
 have hs := h.sorted
 have hsplit : L = L.take k ++ L.drop k := (List.take_append_drop k L).symm
 have hdrop : ∀ y ∈ L.drop k, x.stage ≤ y.stage := fun y hy => by
  rw [List.drop_eq_getElem_cons hlen, (gEs.1 hk).2] at hy
  rcases List.mem_cons.1 hy with rfl | hy
  ·exact Int.le_refl _
  ·rw [hsplit, List.drop_eq_getElem_cons hlen, (gEs.1 hk).2] at hs
   exact (List.pairwise_cons.1 (List.pairwise_append.1 hs).2.1).1 y hy
 have htake : ∀ y ∈ L.take k, y.stage < x.stage := fun y hy => by
  refine Int.lt_of_le_of_lt ?_ hp
  unfold prevS lastS
  cases hg : (L.take k).getLast? with
  | none => rw [List.getLast?_eq_none_iff] at hg; rw [hg] at hy; cases hy
  | some z =>
   dsimp only
   have hs2 : (L.take k).Pairwise fun x y => x.stage ≤ y.stage := hs.sublist (List.take_sublist _ _)
   obtain ⟨ys, hys⟩ := List.getLast?_eq_some_iff.1 hg
   rw [hys] at hy hs2
   rcases List.mem_append.1 hy with hy | hy
   ·exact (List.pairwise_append.1 hs2).2.2 y hy z (mSg.2 rfl)
   ·rw [mSg.1 hy]; exact Int.le_refl _
 conv => rhs; rw [hsplit]
 exact (poolE_app htake hdrop).symm
theorem FixR.stage0 {st : St} {L : List Ent} {l : List Pk} (h : FixR st 1 (seeds0 st) (less0 st) L l) {x : Ent} (hx : x ∈ L) : 0 ≤ x.stage := by
 rcases h.holds hx with h1 | h1 <;> omega
theorem FixR.len {st : St} {L : List Ent} {l : List Pk} (h : FixR st 1 (seeds0 st) (less0 st) L l) : L.length + l.length = st.all.length := by
 have := h.all.length_eq
 rwa [lAp, List.length_map] at this
def solveF (n : Nat) (s : St) (p : Pk) (pool : List Pk) (left : Int) : Option (Ch5 × Int × Int) := match s.rec? p with
 | none => some (ch0, 0, 14)
 | some r => match s.fitsP pool r.tool with
  | [] => some (ch0, 0, 12)
  | t :: _ => if left < 1 then some (ch0, 0, 60) else match meetF (s.fitsP pool) s.runs n (left - 1).toNat r.build [] with
   | none => none
   | some (.ok ch, b) => some ((t, sortP ch), left - b, 0)
   | some (.clash, b) => some (ch0, left - b, 12)
   | some (.budget, b) => some (ch0, left - b, 60)
theorem solveF_T {n : Nat} {s : St} {p : Pk} {pool : List Pk} {left : Int} {r : Ch5 × Int × Int} (h : solveF n s p pool left = some r) : solveT s p pool left = r := by
 unfold solveF at h
 unfold solveT
 cases hr : s.rec? p with
 | none => rw [hr] at h; exact sIj h
 | some rc =>
  rw [hr] at h
  dsimp only at h ⊢
  cases hf : s.fitsP pool rc.tool with
  | nil => rw [hf] at h; exact sIj h
  | cons t ts =>
   rw [hf] at h
   dsimp only at h ⊢
   by_cases hl : left < 1
   ·rw [if_pos hl] at h ⊢; exact sIj h
   ·rw [if_neg hl] at h ⊢
    cases hm : meetF (s.fitsP pool) s.runs n (left - 1).toNat rc.build [] with
    | none => rw [hm] at h; cases h
    | some res =>
     rw [hm] at h
     rw [meet_of hm]
     rcases res with ⟨_ | _ | _, b⟩ <;> exact sIj h
def roundC (n : Nat) (st : St) (pool : List Pk) (left stage : Int) : List Pk → Int → Option (Option (Int × List Ent × List Pk))
 | [], made => some (some (made, [], []))
 | p :: ps, made => match solveF n st p pool (max left 0 - made) with
  | none => none
  | some (c, m, e) => if e = 60 then some none else match roundC n st pool left stage ps (made + m) with
   | none => none
   | some none => some none
   | some (some (m', es, less)) => if e = 0 then some (some (m', ⟨p, stage, c⟩ :: es, less)) else some (some (m', es, p :: less))
theorem roundC_T {n : Nat} {st : St} {pool : List Pk} {left stage : Int} : ∀ {ps : List Pk} {made : Int} {r}, roundC n st pool left stage ps made = some r → roundT st pool left stage ps made = r
 | [], made, r, h => by
  unfold roundC at h
  unfold roundT
  exact sIj h
 | p :: ps, made, r, h => by
  unfold roundC at h
  unfold roundT
  cases hs : solveF n st p pool (max left 0 - made) with
  | none => rw [hs] at h; cases h
  | some x =>
   obtain ⟨c, m, e⟩ := x
   rw [hs] at h
   rw [solveF_T hs]
   dsimp only at h ⊢
   by_cases h6 : e = 60
   ·rw [if_pos h6] at h ⊢; exact sIj h
   ·rw [if_neg h6] at h ⊢
    cases hr : roundC n st pool left stage ps (made + m) with
    | none => rw [hr] at h; cases h
    | some y =>
     rw [hr] at h
     rw [roundC_T hr]
     rcases y with _ | ⟨m', es, less⟩
     ·exact sIj h
     ·dsimp only at h ⊢
      by_cases h0 : e = 0
      ·rw [if_pos h0] at h ⊢; exact sIj h
      ·rw [if_neg h0] at h ⊢; exact sIj h
def fixC (n : Nat) (st : St) (left : Int) : Nat → Int → Int → List Ent → List Pk → Option (Option (List Ent × List Pk × Int))
 | 0, _, _, _, _ => some none
 | f + 1, stage, made, list, less => match roundC n st (list.map Ent.pkg) left stage less made with
  | none => none
  | some none => some none
  | some (some (m, [], l2)) => some (some (list, l2, m))
  | some (some (m, e :: es, l2)) => fixC n st left f (stage + 1) m (list ++ e :: es) l2
theorem fixC_T {n : Nat} {st : St} {left : Int} : ∀ {f : Nat} {stage made : Int} {list : List Ent} {less : List Pk} {r}, fixC n st left f stage made list less = some r → fixF st left f stage made list less = r
 | 0, _, _, _, _, r, h => by
  unfold fixC at h
  unfold fixF
  exact sIj h
 | f + 1, stage, made, list, less, r, h => by
  unfold fixC at h
  unfold fixF
  cases hr : roundC n st (list.map Ent.pkg) left stage less made with
  | none => rw [hr] at h; cases h
  | some y =>
   rw [hr] at h
   rw [roundC_T hr]
   rcases y with _ | ⟨m', _ | ⟨e, es⟩, l2⟩
   ·exact sIj h
   ·dsimp only at h ⊢
    rw [if_pos rfl]; exact sIj h
   ·dsimp only at h ⊢
    rw [if_neg (by simp)]
    exact fixC_T h
def fixCT (n : Nat) (st : St) (left : Int) : Option (Option (List Ent × List Pk × Int)) := fixC n st left ((less0 st).length + 1) 1 0 (seeds0 st) (less0 st)
theorem fixCT_T {n : Nat} {st : St} {left : Int} {r : Option (List Ent × List Pk × Int)} (h : fixCT n st left = some r) : fixT st left = r := fixC_T h
end Go.Proofs.YtaagkndhgicifaaGreat
