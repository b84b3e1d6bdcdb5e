/- DERIVED. A chain of self-hosting versions: its stages are its versions. No program in sight. -/
import Derived.Test.YtaagkndhgicifaaGreatStgTr
import Derived.Test.YtaagkndhgicifaaGreatSv11
import Derived.Test.YtaagkndhgicifaaGreatSv13
import Derived.Test.YtaagkndhgicifaaGreatStgGet
namespace Go.Proofs.YtaagkndhgicifaaGreat
set_option linter.unusedVariables false

/-- A recipe with a tool alone, at versions of one number. -/
def toolR (n : List UInt8) (k : Int) (t : List UInt8) (lo hi : Int) : Rc := ⟨(n, k, 0, 0), (t, [(lo * 1000000, hi * 1000000)]), [], []⟩
/-- A package that every solve of costs at most one decision. -/
def Cheap (st : St) (p : Pk) : Prop := ∀ pool lf, 1 ≤ lf → ∃ c n e, solveT st p pool lf = (c, n, e) ∧ 0 ≤ n ∧ n ≤ 1 ∧ e ≠ 60
theorem roundT_some {st : St} {pool : List Pk} {left stage : Int} : ∀ (ps : List Pk) (made : Int), (∀ p ∈ ps, Cheap st p) → 0 ≤ made → made + (ps.length : Int) ≤ max left 0 → ∃ m es l2, roundT st pool left stage ps made = some (m, es, l2) ∧ made ≤ m ∧ m ≤ made + (ps.length : Int)
  | [], made, _, _, _ => ⟨made, [], [], roundT_nil, Int.le_refl _, by simp⟩
  | p :: ps, made, hp, h0, hm => by
    rw [List.length_cons] at hm ⊢
    obtain ⟨c, n, e, hs, hn0, hn, he⟩ := hp p (List.mem_cons_self ..) pool (max left 0 - made) (by omega)
    obtain ⟨m, es, l2, hr, hm1, hm2⟩ := roundT_some (left := left) (stage := stage) (pool := pool) ps (made + n) (fun q hq => hp q (List.mem_cons_of_mem _ hq)) (by omega) (by omega)
    rw [roundT_cons hs, if_neg he, hr]
    by_cases h6 : e = 0
    · exact ⟨m, ⟨p, stage, c⟩ :: es, l2, by simp [h6], by omega, by omega⟩
    · exact ⟨m, es, p :: l2, by simp [h6], by omega, by omega⟩
theorem fixF_some {st : St} {left : Int} (K : Nat) : ∀ (f : Nat) (stage made : Int) (list : List Ent) (less : List Pk), (∀ p ∈ less, Cheap st p) → less.length ≤ K → less.length < f → 0 ≤ made → made + (f : Int) * K ≤ max left 0 → ∃ L l m, fixF st left f stage made list less = some (L, l, m)
  | 0, _, _, _, _, _, _, hf, _, _ => absurd hf (Nat.not_lt_zero _)
  | f + 1, stage, made, list, less, hp, hk, hf, h0, hm => by
    have hK : ((f + 1 : Nat) : Int) * K = (f : Int) * K + K := by rw [Int.natCast_add, Int.add_mul]; simp
    rw [hK] at hm
    have hfk : 0 ≤ (f : Int) * K := Int.mul_nonneg (Int.natCast_nonneg _) (Int.natCast_nonneg _)
    obtain ⟨m, es, l2, hr, hm1, hm2⟩ := roundT_some (st := st) (pool := list.map Ent.pkg) (left := left) (stage := stage) less made hp h0 (by omega)
    have hlen := roundT_len _ _ _ _ _ hr
    obtain ⟨-, hmem⟩ := roundT_mem _ _ _ _ _ hr
    unfold fixF
    rw [hr]
    dsimp only
    by_cases he : es = []
    · rw [if_pos he]; exact ⟨_, _, _, rfl⟩
    · rw [if_neg he]
      have h1 : es.length ≠ 0 := fun e => he (List.eq_nil_of_length_eq_zero e)
      exact fixF_some K f _ _ _ _ (fun q hq => hp q (hmem q hq).1) (by omega) (by omega) (by omega) (by omega)
theorem fixT_some {st : St} {left : Int} (hp : ∀ p ∈ less0 st, Cheap st p) (h : ((less0 st).length + 1 : Nat) * ((less0 st).length : Int) ≤ max left 0) : ∃ L l m, fixT st left = some (L, l, m) :=
  fixF_some (less0 st).length _ _ _ _ _ hp (Nat.le_refl _) (Nat.lt_succ_self _) (Int.le_refl _) (by rw [Int.zero_add]; exact h)

def cP (i : Int) : Pk := (n_cc, i, 0, 0)
def cR (i : Int) : Rc := toolR n_cc i n_cc (i - 1) i
/-- The stock of a chain with these versions. -/
def cS (J : List Int) : St := ⟨[cP 0], J.map cR⟩
theorem cP_inj {i j : Int} (h : cP i = cP j) : i = j := by unfold cP at h; injection h with _ h; injection h with h
theorem cS_rec {J : List Int} {i : Int} (h : i ∈ J) : (cS J).rec? (cP i) = some (cR i) := by
  have hs : (cS J).rec? (cP i) ≠ none := fun e => by
    have := List.find?_eq_none.1 e (cR i) (List.mem_map.2 ⟨i, h, rfl⟩)
    exact this (by simp [cR, toolR, cP])
  cases hr : (cS J).rec? (cP i) with
  | none => exact absurd hr hs
  | some r =>
    obtain ⟨h1, h2⟩ := St.rec?_some hr
    obtain ⟨j, hj, rfl⟩ := List.mem_map.1 h1
    obtain rfl : j = i := cP_inj h2
    rfl
theorem cS_pkgs {J : List Int} {p : Pk} : p ∈ (cS J).pkgs ↔ ∃ i, (i = 0 ∨ i ∈ J) ∧ p = cP i := by
  unfold St.pkgs cS
  simp only [List.mem_append, List.mem_singleton, List.mem_map]
  constructor
  · rintro (rfl | ⟨r, ⟨i, hi, rfl⟩, rfl⟩)
    · exact ⟨0, .inl rfl, rfl⟩
    · exact ⟨i, .inr hi, rfl⟩
  · rintro ⟨i, rfl | hi, rfl⟩
    · exact .inl rfl
    · exact .inr ⟨cR i, ⟨i, hi, rfl⟩, rfl⟩
theorem cS_seed {J : List Int} {i : Int} : (cS J).isSeed (cP i) = true ↔ i = 0 := by
  rw [St.isSeed_iff]
  show cP i ∈ [cP 0] ↔ _
  rw [List.mem_singleton]
  exact ⟨cP_inj, fun h => by rw [h]⟩
theorem cS_has {J : List Int} {i : Int} (h0 : i ≠ 0) (hi : i ∉ J) : (cS J).has (cP i) = false := by
  cases h : (cS J).has (cP i) with
  | false => rfl
  | true =>
    obtain ⟨j, hj, e⟩ := cS_pkgs.1 (St.has_iff.1 h)
    obtain rfl := cP_inj e
    rcases hj with hj | hj
    · exact absurd hj h0
    · exact absurd hj hi
theorem cP_will {i j : Int} (hi : 1 ≤ i ∧ i ≤ 30) (hj : 0 ≤ j ∧ j ≤ 30) : willB (cR i).tool (cP j) = true ↔ j = i - 1 := by
  unfold willB spanHas inGaps verNum verGood cR toolR cP
  simp
  omega
/-- What Solve answers of a version of the chain. -/
theorem cS_solve {J : List Int} (hJ : ∀ i ∈ J, 1 ≤ i ∧ i ≤ 30) {i : Int} (hi : i ∈ J) (pool : List Pk) (lf : Int) :
    ∃ c n e, solveT (cS J) (cP i) pool lf = (c, n, e) ∧ 0 ≤ n ∧ n ≤ 1 ∧ (1 ≤ lf → e ≠ 60) ∧ ((e = 0 ∨ e = 60) ↔ cP (i - 1) ∈ pool ∧ cP (i - 1) ∈ (cS J).pkgs) := by
  obtain ⟨h1, h2⟩ := hJ i hi
  have hbnd : ∀ q ∈ (cS J).pkgs, ∃ j, q = cP j ∧ 0 ≤ j ∧ j ≤ 30 := fun q hq => by
    obtain ⟨j, hj, rfl⟩ := cS_pkgs.1 hq
    rcases hj with rfl | hj
    · exact ⟨0, rfl, by omega, by omega⟩
    · have := hJ j hj
      exact ⟨j, rfl, by omega, by omega⟩
  unfold solveT
  rw [cS_rec hi]
  dsimp only
  cases hf : (cS J).fitsP pool (cR i).tool with
  | nil =>
    refine ⟨_, _, _, rfl, by omega, by omega, fun _ => by omega, ?_⟩
    constructor
    · intro h; omega
    · rintro ⟨g1, g2⟩
      have : cP (i - 1) ∈ (cS J).fitsP pool (cR i).tool := mem_fitsP2.2 ⟨g1, g2, (cP_will ⟨h1, h2⟩ (by omega)).2 rfl⟩
      rw [hf] at this
      cases this
  | cons t ts =>
    obtain ⟨g1, g2, g3⟩ := mem_fitsP2.1 (show t ∈ (cS J).fitsP pool (cR i).tool by rw [hf]; exact List.mem_cons_self ..)
    obtain ⟨j, rfl, hj⟩ := hbnd t g2
    rw [(cP_will ⟨h1, h2⟩ hj).1 g3] at g1 g2
    dsimp only
    by_cases hl : lf < 1
    · rw [if_pos hl]
      exact ⟨_, _, _, rfl, by omega, by omega, fun h => by omega, fun _ => ⟨g1, g2⟩, fun _ => .inr rfl⟩
    · rw [if_neg hl]
      have hm : meet ((cS J).fitsP pool) (cS J).runs (lf - 1).toNat (cR i).build [] = (.ok [], (lf - 1).toNat) := meet_of (n := 1) (by unfold meetF; rfl)
      rw [hm]
      exact ⟨_, _, _, rfl, by omega, by omega, fun _ => by omega, fun _ => ⟨g1, g2⟩, fun _ => .inl rfl⟩
section
variable {J : List Int} {n cut : Int}
theorem cS_bnd (hJ : ∀ i, i ∈ J ↔ 1 ≤ i ∧ i ≤ n ∧ i ≠ cut) (hn : 1 ≤ n ∧ n ≤ 30) : ∀ i ∈ J, 1 ≤ i ∧ i ≤ 30 := fun i hi => by have := (hJ i).1 hi; omega
theorem cS_less {p : Pk} (h : p ∈ less0 (cS J)) : ∃ i ∈ J, p = cP i := by
  obtain ⟨h1, h2, -⟩ := less0_rec h
  obtain ⟨i, hi, rfl⟩ := cS_pkgs.1 (St.has_iff.1 h1)
  rcases hi with rfl | hi
  · rw [cS_seed.2 rfl] at h2; cases h2
  · exact ⟨i, hi, rfl⟩
theorem cS_some (hJ : ∀ i, i ∈ J ↔ 1 ≤ i ∧ i ≤ n ∧ i ≠ cut) (hn : 1 ≤ n ∧ n ≤ 30) (hd : J.Nodup) : ∃ L l m, fixT (cS J) 2000 = some (L, l, m) := by
  refine fixT_some (fun p hp => ?_) ?_
  · obtain ⟨i, hi, rfl⟩ := cS_less hp
    intro pool lf hl
    obtain ⟨c, m, e, h1, h2, h3, h4, -⟩ := cS_solve (cS_bnd hJ hn) hi pool lf
    exact ⟨c, m, e, h1, h2, h3, h4 hl⟩
  · have hl : J.length ≤ 30 := by
      have h1 := List.Nodup.length_le_of_subset (l₂ := (List.range 30).map fun k : Nat => (k : Int) + 1) hd (fun i hi => by
        have := (hJ i).1 hi
        exact List.mem_map.2 ⟨(i - 1).toNat, List.mem_range.2 (by omega), by omega⟩)
      simpa using h1
    have h2 : (less0 (cS J)).length ≤ 31 := by
      unfold less0
      refine Nat.le_trans (List.length_filter_le _ _) ?_
      have := all_len (cS J)
      have h3 : (cS J).seeds.length = 1 := rfl
      have h4 : (cS J).recs.length = J.length := by unfold cS; simp
      omega
    have h3 : ((less0 (cS J)).length + 1) * (less0 (cS J)).length ≤ 32 * 31 := Nat.mul_le_mul (by omega) h2
    have h4 : (((less0 (cS J)).length + 1 : Nat) : Int) * ((less0 (cS J)).length : Int) = (((less0 (cS J)).length + 1) * (less0 (cS J)).length : Nat) := (Int.natCast_mul _ _).symm
    rw [h4]
    omega
variable {L : List Ent} {l : List Pk} (hJ : ∀ i, i ∈ J ↔ 1 ≤ i ∧ i ≤ n ∧ i ≠ cut) (hn : 1 ≤ n ∧ n ≤ 30) (hcut : 1 ≤ cut) (h : FixR (cS J) 1 (seeds0 (cS J)) (less0 (cS J)) L l)
include hJ hn in
/-- Where what stands below is in the pool, it can't fail. -/
theorem cS_fails {i : Int} (hi : i ∈ J) {pool : List Pk} (hf : Fails (cS J) (cP i) pool) : ¬ (cP (i - 1) ∈ pool ∧ cP (i - 1) ∈ (cS J).pkgs) := by
  obtain ⟨lf, c, m, e, h1, h2, h3⟩ := hf
  obtain ⟨c', m', e', g1, -, -, -, g2⟩ := cS_solve (cS_bnd hJ hn) hi pool lf
  rw [h1] at g1
  obtain rfl : e = e' := by injection g1 with _ g1; injection g1
  intro h4
  rcases g2.2 h4 with h5 | h5
  · exact h2 h5
  · exact h3 h5
include h in
theorem cS_mem {x : Ent} (hx : x ∈ L) : x.pkg ∈ (cS J).pkgs := St.mem_all.1 (h.all.mem_iff.1 (List.mem_append_left _ (List.mem_map.2 ⟨x, hx, rfl⟩)))
include hJ hn hcut h in
theorem cS_stage : ∀ (i : Nat) (x : Ent), x ∈ L → x.pkg = cP i → x.stage = i ∧ (i : Int) < cut
  | 0, x, hx, hp => by
    rcases h.built x hx with h0 | ⟨h0, -⟩
    · exact ⟨(seeds0_stage x h0).1, by omega⟩
    · obtain ⟨j, hj, e⟩ := cS_less h0
      rw [hp] at e
      have := cP_inj e
      have := (hJ j).1 hj
      omega
  | i + 1, x, hx, hp => by
    rcases h.built x hx with h0 | ⟨h0, h1, ⟨lf, m, h2⟩, h3⟩
    · have := (seeds0_stage x h0).2
      rw [hp] at this
      have := cS_seed.1 this
      omega
    · obtain ⟨j, hj, e⟩ := cS_less h0
      rw [hp] at e
      obtain rfl := cP_inj e
      obtain ⟨c', m', e', g1, -, -, -, g2⟩ := cS_solve (cS_bnd hJ hn) hj (poolE L x.stage) lf
      rw [hp, g1] at h2
      obtain rfl : e' = 0 := by injection h2 with _ h2; injection h2
      obtain ⟨g3, g4⟩ := g2.1 (.inl rfl)
      have e1 : (((i + 1 : Nat) : Int) - 1) = (i : Int) := by omega
      rw [e1] at g3 g4
      obtain ⟨y, hy, hys, hyp⟩ := mem_poolE.1 g3
      obtain ⟨k1, k2⟩ := cS_stage i y hy hyp
      have hst : ¬ ((i : Int) + 1 < x.stage) := fun hlt => by
        have := cS_fails hJ hn hj (hp ▸ h3 ((i : Int) + 1) (by omega) hlt)
        rw [e1] at this
        exact this ⟨mem_poolE.2 ⟨y, hy, by omega, hyp⟩, g4⟩
      have := (hJ _).1 hj
      omega
include hJ hn h in
theorem cS_in : ∀ (i : Nat), (i : Int) < cut → (i : Int) ≤ n → ∃ x ∈ L, x.pkg = cP i
  | 0, hc, hi => by
    have hm : cP ((0 : Nat) : Int) ∈ L.map Ent.pkg ++ l := h.all.mem_iff.2 (St.mem_all.2 (cS_pkgs.2 ⟨0, .inl rfl, rfl⟩))
    rcases List.mem_append.1 hm with hm | hm
    · exact List.mem_map.1 hm
    · obtain ⟨j, hj, e⟩ := cS_less (h.left _ hm).1
      have := cP_inj e
      have := (hJ j).1 hj
      omega
  | i + 1, hc, hi => by
    have hj : ((i + 1 : Nat) : Int) ∈ J := (hJ _).2 (by omega)
    have hm : cP ((i + 1 : Nat) : Int) ∈ L.map Ent.pkg ++ l := h.all.mem_iff.2 (St.mem_all.2 (cS_pkgs.2 ⟨_, .inr hj, rfl⟩))
    rcases List.mem_append.1 hm with hm | hm
    · exact List.mem_map.1 hm
    · obtain ⟨-, last, h1, h2, h3⟩ := h.left _ hm
      obtain ⟨y, hy, hyp⟩ := cS_in i (by omega) (by omega)
      have e1 : (((i + 1 : Nat) : Int) - 1) = (i : Int) := by omega
      have := cS_fails hJ hn hj (h3 last h1 (Int.le_refl _))
      rw [e1] at this
      exact absurd ⟨mem_poolE.2 ⟨y, hy, h2 y hy, hyp⟩, hyp ▸ cS_mem h hy⟩ this
include hJ hn hcut h in
theorem cS_get (i : Nat) (hi : (i : Int) ≤ n) : (getE L (cP i)).2 = decide ((i : Int) < cut) ∧ ((i : Int) < cut → (getE L (cP i)).1.stage = i) := by
  unfold getE
  cases hf : L.find? (fun x => decide (x.pkg = cP i)) with
  | none =>
    have hc : ¬ (i : Int) < cut := fun hc => by
      obtain ⟨x, hx, hp⟩ := cS_in hJ hn h i hc hi
      have := List.find?_eq_none.1 hf x hx
      simp [hp] at this
    exact ⟨by simp [hc], fun h => absurd h hc⟩
  | some x =>
    obtain ⟨h1, h2⟩ := cS_stage hJ hn hcut h i x (List.mem_of_find?_eq_some hf) (by simpa using List.find?_some hf)
    exact ⟨by simp [h2], fun _ => h1⟩
include hJ hn hcut h in
theorem cS_len : l.length = (n - cut).toNat := by
  have hnd : (L.map Ent.pkg ++ l).Nodup := h.nodup
  obtain ⟨-, hnl, hdj⟩ := List.nodup_append.1 hnd
  have hmem : ∀ p, p ∈ l ↔ p ∈ (List.range (n - cut).toNat).map fun k : Nat => cP (cut + 1 + k) := by
    intro p
    constructor
    · intro hp
      obtain ⟨j, hj, rfl⟩ := cS_less (h.left p hp).1
      have h1 := (hJ j).1 hj
      have h2 : cut < j := by
        rcases Int.lt_or_le j cut with h2 | h2
        · obtain ⟨x, hx, hxp⟩ := cS_in hJ hn h j.toNat (by omega) (by omega)
          have e : ((j.toNat : Nat) : Int) = j := by omega
          rw [e] at hxp
          exact absurd rfl (hdj _ (List.mem_map.2 ⟨x, hx, hxp⟩) _ hp)
        · omega
      exact List.mem_map.2 ⟨(j - cut - 1).toNat, List.mem_range.2 (by omega), by congr 1; omega⟩
    · intro hp
      obtain ⟨k, hk, rfl⟩ := List.mem_map.1 hp
      have hk := List.mem_range.1 hk
      have hj : cut + 1 + (k : Int) ∈ J := (hJ _).2 (by omega)
      have hm : cP (cut + 1 + k) ∈ L.map Ent.pkg ++ l := h.all.mem_iff.2 (St.mem_all.2 (cS_pkgs.2 ⟨_, .inr hj, rfl⟩))
      rcases List.mem_append.1 hm with hm | hm
      · obtain ⟨x, hx, hxp⟩ := List.mem_map.1 hm
        have e : ((cut + 1 + (k : Int)).toNat : Int) = cut + 1 + k := by omega
        have := (cS_stage hJ hn hcut h (cut + 1 + (k : Int)).toNat x hx (by rw [e]; exact hxp)).2
        omega
      · exact hm
  have hnd2 : ((List.range (n - cut).toNat).map fun k : Nat => cP (cut + 1 + k)).Nodup := by
    rw [List.nodup_iff_pairwise_ne, List.pairwise_map]
    refine List.Pairwise.imp (R := (· < ·)) (fun {a b} hab e => ?_) List.pairwise_lt_range
    have := cP_inj e
    omega
  have h1 := List.Nodup.length_le_of_subset hnl (fun p hp => (hmem p).1 hp)
  have h2 := List.Nodup.length_le_of_subset hnd2 (fun p hp => (hmem p).2 hp)
  rw [List.length_map, List.length_range] at h1 h2
  omega
end
end Go.Proofs.YtaagkndhgicifaaGreat
