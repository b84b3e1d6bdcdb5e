/- DERIVED. What a good answer says, what a bad answer says, on what an answer hangs. No program in sight. -/
import Derived.Test.YtaagkndhgicifaaGreatSolLaw
namespace Go.Proofs.YtaagkndhgicifaaGreat
set_option linter.unusedVariables false
theorem solve_bad {st : St} {p : Pk} {pool : List Pk} {left : Int} {c : Ch5} {n e : Int} (h : solveT st p pool left = (c, n, e)) (he : e ≠ 0) : c = ch0 ∧ 0 ≤ n := by
 unfold solveT at h
 cases hr : st.rec? p with
 | none => rw [hr] at h; injection h with h1 h2; injection h2 with h2 _; subst h1 h2; exact ⟨rfl, Int.le_refl _⟩
 | some r =>
  rw [hr] at h
  dsimp only at h
  cases hf : st.fitsP pool r.tool with
  | nil => rw [hf] at h; injection h with h1 h2; injection h2 with h2 _; subst h1 h2; exact ⟨rfl, Int.le_refl _⟩
  | cons t ts =>
   rw [hf] at h
   dsimp only at h
   by_cases hl : left < 1
   ·rw [if_pos hl] at h; injection h with h1 h2; injection h2 with h2 _; subst h1 h2; exact ⟨rfl, Int.le_refl _⟩
   ·rw [if_neg hl] at h
    obtain ⟨m, hm, hle⟩ := meet_some (st.fitsP pool) st.runs (left - 1).toNat r.build []
    generalize meet (st.fitsP pool) st.runs (left - 1).toNat r.build [] = res at h hm hle
    obtain ⟨res, b⟩ := res
    dsimp only at hle
    cases res with
    | ok ch => injection h with h1 h2; injection h2 with h2 h3; exact absurd h3.symm he
    | clash => injection h with h1 h2; injection h2 with h2 h3; subst h1 h2; exact ⟨rfl, by omega⟩
    | budget => injection h with h1 h2; injection h2 with h2 h3; subst h1 h2; exact ⟨rfl, by omega⟩
theorem tryF_clash {f : Nat → List Dp → List Pk → Option (Res × Nat)} {R : Pk → List Dp} {rest : List Dp} {ch : List Pk} : ∀ (ps : List Pk) (b b' : Nat), tryF f R rest ch b ps = some (.clash, b') → ∀ p ∈ ps, ∃ b1 b2, f b1 (rest ++ R p) (ch ++ [p]) = some (.clash, b2)
 | [], _, _, _, p, hp => by cases hp
 | q :: ps, 0, b', h, p, hp => by unfold tryF at h; cases h
 | q :: ps, b + 1, b', h, p, hp => by
  unfold tryF at h
  cases hf : f b (rest ++ R q) (ch ++ [q]) with
  | none => rw [hf] at h; cases h
  | some x =>
   rw [hf] at h
   obtain ⟨x, b2⟩ := x
   cases x with
   | ok c => cases h
   | budget => cases h
   | clash =>
    rcases List.mem_cons.1 hp with rfl | hp
    ·exact ⟨b, b2, hf⟩
    ·exact tryF_clash ps b2 b' h p hp
theorem meet_misses {st : St} {pool C : List Pk} (hone : ∀ p ∈ C, ∀ q ∈ C, p.1 = q.1 → p = q) (hin : ∀ q ∈ C, q ∈ pool ∧ q ∈ st.pkgs ∧ ∀ d ∈ st.runs q, ∃ q' ∈ C, willB d q' = true) :
  ∀ (n b : Nat) (ws : List Dp) (ch : List Pk) (b' : Nat), meetF (st.fitsP pool) st.runs n b ws ch = some (.clash, b') → (∀ d ∈ ws, ∃ q ∈ C, willB d q = true) → (∀ q ∈ ch, q ∈ C) → False
 | 0, _, _, _, _, h, _, _ => by cases h
 | n + 1, b, [], ch, b', h, _, _ => by unfold meetF at h; cases h
 | n + 1, b, d :: rest, ch, b', h, hws, hch => by
  unfold meetF at h
  obtain ⟨q, hq, hw⟩ := hws d (mCs ..)
  have hqd : q.1 = d.1 := by
   unfold willB at hw
   rw [Bool.and_eq_true] at hw
   simpa using hw.1
  cases hf : ch.find? (fun p => decide (p.1 = d.1)) with
  | some p =>
   rw [hf] at h
   dsimp only at h
   have hp := hch p (List.mem_of_find?_eq_some hf)
   have hpd : p.1 = d.1 := by simpa using List.find?_some hf
   obtain rfl := hone p hp q hq (hpd.trans hqd.symm)
   rw [if_pos hw] at h
   exact meet_misses hone hin n b rest ch b' h (fun d hd => hws d (mCm _ hd)) hch
  | none =>
   rw [hf] at h
   dsimp only at h
   obtain ⟨h1, h2, h3⟩ := hin q hq
   obtain ⟨b1, b2, hc⟩ := tryF_clash _ _ _ h q (mem_fitsP2.2 ⟨h1, h2, hw⟩)
   refine meet_misses hone hin n b1 _ _ b2 hc (fun x hx => ?_) (fun x hx => ?_)
   ·rcases List.mem_append.1 hx with hx | hx
    ·exact hws x (mCm _ hx)
    ·exact h3 x hx
   ·rcases List.mem_append.1 hx with hx | hx
    ·exact hch x hx
    ·rw [mSg.1 hx]; exact hq
theorem solve_misses {st : St} {p : Pk} {pool : List Pk} {left : Int} {c : Ch5} {n : Int} (h : solveT st p pool left = (c, n, 12)) :
  (∃ r, st.rec? p = some r) ∧ ∀ C, holdsB st p pool C = false := by
 unfold solveT at h
 unfold holdsB
 cases hr : st.rec? p with
 | none => rw [hr] at h; cases h
 | some r =>
  rw [hr] at h
  dsimp only at h ⊢
  refine ⟨⟨r, rfl⟩, fun C => ?_⟩
  rw [Bool.eq_false_iff]
  intro hC
  simp only [Bool.and_eq_true, List.all_eq_true, oneB, decide_eq_true_eq] at hC
  obtain ⟨⟨⟨⟨⟨c1, c2⟩, c3⟩, c4⟩, c5⟩, c6⟩ := hC
  have ht : C.1 ∈ st.fitsP pool r.tool := mem_fitsP2.2 ⟨inP_iff.1 c2, St.has_iff.1 c3, c1⟩
  cases hf : st.fitsP pool r.tool with
  | nil => rw [hf] at ht; cases ht
  | cons t ts =>
   rw [hf] at h
   dsimp only at h
   by_cases hl : left < 1
   ·rw [if_pos hl] at h; cases h
   ·rw [if_neg hl] at h
    obtain ⟨m, hm, -⟩ := meet_some (st.fitsP pool) st.runs (left - 1).toNat r.build []
    generalize meet (st.fitsP pool) st.runs (left - 1).toNat r.build [] = res at h hm
    obtain ⟨res, b⟩ := res
    cases res with
    | ok ch => cases h
    | budget => cases h
    | clash =>
     refine meet_misses (C := C.2) (fun a ha x hx e => ?_) (fun q hq => ?_) m _ _ _ _ hm (metB_iff.1 c4) (fun q hq => by cases hq)
     ·obtain ⟨i, hi⟩ := List.mem_iff_getElem?.1 ha
      obtain ⟨j, hj⟩ := List.mem_iff_getElem?.1 hx
      have hil := (gEs.1 hi).1
      have e1 : (C.2.map Prod.fst)[i]? = (C.2.map Prod.fst)[j]? := by rw [List.getElem?_map, List.getElem?_map, hi, hj]; simp [e]
      have e2 := (List.getElem?_inj (by simpa using hil) c5).1 e1
      subst e2
      rw [hi] at hj
      exact sIj hj
     ·obtain ⟨⟨d1, d2⟩, d3⟩ := c6 q hq
      exact ⟨inP_iff.1 d1, St.has_iff.1 d2, metB_iff.1 d3⟩
theorem fitsP_congr {st : St} {pool pool' : List Pk} (h : ∀ q ∈ st.pkgs, q ∈ pool ↔ q ∈ pool') : st.fitsP pool = st.fitsP pool' := by
 funext d
 unfold St.fitsP
 refine List.filter_congr fun q hq => ?_
 have hq' : q ∈ st.pkgs := by
  unfold St.fits at hq
  rw [List.mem_reverse, List.mem_filter, St.mem_all] at hq
  exact hq.1
 rw [Bool.eq_iff_iff, inP_iff, inP_iff]
 exact h q hq'
theorem solve_pool {st : St} {p : Pk} {pool pool' : List Pk} {left : Int} (h : ∀ q ∈ st.pkgs, q ∈ pool ↔ q ∈ pool') : solveT st p pool left = solveT st p pool' left := by
 unfold solveT
 rw [fitsP_congr h]
theorem meetF_more {F : Dp → List Pk} {R : Pk → List Dp} {m : Nat} : ∀ (n b : Nat) (ws : List Dp) (ch : List Pk) (r : Res) (b' : Nat), r ≠ .budget → meetF F R n b ws ch = some (r, b') → meetF F R n (b + m) ws ch = some (r, b' + m)
 | 0, _, _, _, _, _, _, h => by cases h
 | n + 1, b, [], ch, r, b', hr, h => by
  unfold meetF at h ⊢
  have := sIj h
  injection this with h1 h2
  rw [← h1, ← h2]
 | n + 1, b, d :: rest, ch, r, b', hr, h => by
  have ih := meetF_more (F := F) (R := R) (m := m) n
  unfold meetF at h ⊢
  cases hf : ch.find? (fun p => decide (p.1 = d.1)) with
  | some p =>
   rw [hf] at h
   dsimp only at h ⊢
   split at h
   ·rename_i hw
    rw [if_pos hw]
    exact ih b rest ch r b' hr h
   ·rename_i hw
    rw [if_neg hw]
    have := sIj h
    injection this with h1 h2
    rw [← h1, ← h2]
  | none =>
   rw [hf] at h
   dsimp only at h ⊢
   generalize F d = ps at h ⊢
   induction ps generalizing b with
   | nil =>
    cases b with
    | zero =>
     unfold tryF at h
     have := sIj h
     injection this with h1 h2
     rw [← h1, ← h2, Nat.zero_add]
     cases m <;> rfl
    | succ b =>
     unfold tryF at h
     have := sIj h
     injection this with h1 h2
     rw [← h1, ← h2]
     rw [show b + 1 + m = (b + m) + 1 from by omega]
     rfl
   | cons p ps ihp =>
    cases b with
    | zero =>
     unfold tryF at h
     have := sIj h
     injection this with h1 h2
     exact absurd h1.symm hr
    | succ b =>
     rw [show b + 1 + m = (b + m) + 1 from by omega]
     unfold tryF at h ⊢
     cases hq : meetF F R n b (rest ++ R p) (ch ++ [p]) with
     | none => rw [hq] at h; cases h
     | some x =>
      rw [hq] at h
      obtain ⟨x, b2⟩ := x
      cases x with
      | budget =>
       have := sIj h
       injection this with h1 h2
       exact absurd h1.symm hr
      | ok c =>
       rw [ih b _ _ _ _ (by simp) hq]
       have := sIj h
       injection this with h1 h2
       rw [← h1, ← h2]
      | clash =>
       rw [ih b _ _ _ _ (by simp) hq]
       exact ihp b2 h
theorem meetF_budget {F : Dp → List Pk} {R : Pk → List Dp} : ∀ (n b : Nat) (ws : List Dp) (ch : List Pk) (b' : Nat), meetF F R n b ws ch = some (.budget, b') → b' = 0
 | 0, _, _, _, _, h => by cases h
 | n + 1, b, [], ch, b', h => by unfold meetF at h; cases h
 | n + 1, b, d :: rest, ch, b', h => by
  have ih := meetF_budget (F := F) (R := R) n
  unfold meetF at h
  cases hf : ch.find? (fun p => decide (p.1 = d.1)) with
  | some p =>
   rw [hf] at h
   dsimp only at h
   split at h
   ·exact ih b rest ch b' h
   ·cases h
  | none =>
   rw [hf] at h
   dsimp only at h
   generalize F d = ps at h
   induction ps generalizing b with
   | nil => cases b <;> (unfold tryF at h; cases h)
   | cons p ps ihp =>
    cases b with
    | zero =>
     unfold tryF at h
     have := sIj h
     injection this with h1 h2
     exact h2.symm
    | succ b =>
     unfold tryF at h
     cases hq : meetF F R n b (rest ++ R p) (ch ++ [p]) with
     | none => rw [hq] at h; cases h
     | some x =>
      rw [hq] at h
      obtain ⟨x, b2⟩ := x
      cases x with
      | ok c => cases h
      | budget =>
       have := sIj h
       injection this with h1 h2
       subst h2
       exact ih b _ _ _ hq
      | clash => exact ihp b2 h
theorem solve_more {st : St} {p : Pk} {pool : List Pk} {left more : Int} {c : Ch5} {n e : Int} (h : solveT st p pool left = (c, n, e)) (hm : 0 ≤ more) :
  (e = 60 → n = max left 0) ∧ (e ≠ 60 → solveT st p pool (max left 0 + more) = (c, n, e)) := by
 unfold solveT at h
 cases hr : st.rec? p with
 | none =>
  rw [hr] at h
  refine ⟨fun he => (by subst he; cases h), fun _ => ?_⟩
  unfold solveT; rw [hr]; exact h
 | some r =>
  rw [hr] at h
  dsimp only at h
  cases hf : st.fitsP pool r.tool with
  | nil =>
   rw [hf] at h
   refine ⟨fun he => (by subst he; cases h), fun _ => ?_⟩
   unfold solveT; rw [hr]; dsimp only; rw [hf]; exact h
  | cons t ts =>
   rw [hf] at h
   dsimp only at h
   by_cases hl : left < 1
   ·rw [if_pos hl] at h
    injection h with h1 h2
    injection h2 with h2 h3
    refine ⟨fun _ => by rw [← h2]; omega, fun he => absurd h3.symm he⟩
   ·rw [if_neg hl] at h
    obtain ⟨m, hme, hle⟩ := meet_some (st.fitsP pool) st.runs (left - 1).toNat r.build []
    generalize meet (st.fitsP pool) st.runs (left - 1).toNat r.build [] = res at h hme hle
    obtain ⟨res, b⟩ := res
    have hnew : res ≠ .budget → meet (st.fitsP pool) st.runs (max left 0 + more - 1).toNat r.build [] = (res, b + more.toNat) := fun hne => by
     have := meetF_more (m := more.toNat) m _ _ _ _ _ hne hme
     rw [show (left - 1).toNat + more.toNat = (max left 0 + more - 1).toNat from by omega] at this
     exact meet_of this
    cases res with
    | budget =>
     injection h with h1 h2
     injection h2 with h2 h3
     have := meetF_budget _ _ _ _ _ hme
     exact ⟨fun _ => by rw [← h2, this]; omega, fun he => absurd h3.symm he⟩
    | ok ch =>
     injection h with h1 h2
     injection h2 with h2 h3
     refine ⟨fun he => (by rw [he] at h3; cases h3), fun _ => ?_⟩
     unfold solveT; rw [hr]; dsimp only; rw [hf]; dsimp only
     rw [if_neg (by omega), hnew (by simp), ← h1, ← h2, ← h3]
     dsimp only
     rw [show (max left 0 + more - ((b + more.toNat : Nat) : Int)) = left - (b : Int) from by omega]
    | clash =>
     injection h with h1 h2
     injection h2 with h2 h3
     refine ⟨fun he => (by rw [he] at h3; cases h3), fun _ => ?_⟩
     unfold solveT; rw [hr]; dsimp only; rw [hf]; dsimp only
     rw [if_neg (by omega), hnew (by simp), ← h1, ← h2, ← h3]
     dsimp only
     rw [show (max left 0 + more - ((b + more.toNat : Nat) : Int)) = left - (b : Int) from by omega]
end Go.Proofs.YtaagkndhgicifaaGreat
