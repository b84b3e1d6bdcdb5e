/- DERIVED. What a plan says: plain laws. No program in sight. -/
import Derived.Test.YtaagkndhgicifaaGreatPlnLaw
import Derived.Test.YtaagkndhgicifaaGreatStgTrS
namespace Go.Proofs.YtaagkndhgicifaaGreat
set_option linter.unusedVariables false
section
variable {st : St} {left m : Int} {L : List Ent} {l : List Pk} {p : Pk}
theorem need_own (hp : p ∈ L.map Ent.pkg) : p ∈ (needT L p).map Ent.pkg := by
 obtain ⟨x, hx, hxp⟩ := List.mem_map.1 hp
 exact List.mem_map.2 ⟨x, mem_needT.2 (.here hx hxp), hxp⟩
theorem need_before {p : Pk} (hg : GoodL L) {i : Nat} {x y : Ent} (hi : (needT L p)[i]? = some y) (hx : x ∈ needT L p) (hl : entLt x y) : x ∈ (needT L p).take i := by
 obtain ⟨j, hj⟩ := List.mem_iff_getElem?.1 hx
 obtain ⟨hj1, hj2⟩ := gEs.1 hj
 obtain ⟨hi1, hi2⟩ := gEs.1 hi
 have hs := List.pairwise_iff_getElem.1 (hg.need p)
 have hji : j < i := by
  rcases Nat.lt_trichotomy j i with h | h | h
  ·exact h
  ·subst h
   rw [hi2] at hj2
   subst hj2
   exact (entLt_asymm hl hl).elim
  ·have := hs i j hi1 hj1 h
   rw [hi2, hj2] at this
   exact (entLt_asymm hl this).elim
 exact List.mem_take_iff_getElem.2 ⟨j, by omega, hj2⟩
theorem need_behind {p : Pk} (hg : GoodL L) {i : Nat} {x y : Ent} (hi : (needT L p)[i]? = some y) (hx : x ∈ needT L p) (hl : entLt y x) : x ∈ (needT L p).drop (i + 1) := by
 obtain ⟨j, hj⟩ := List.mem_iff_getElem?.1 hx
 obtain ⟨hj1, hj2⟩ := gEs.1 hj
 obtain ⟨hi1, hi2⟩ := gEs.1 hi
 have hs := List.pairwise_iff_getElem.1 (hg.need p)
 have hji : i < j := by
  rcases Nat.lt_trichotomy i j with h | h | h
  ·exact h
  ·subst h
   rw [hi2] at hj2
   subst hj2
   exact (entLt_asymm hl hl).elim
  ·have := hs j i hj1 hi1 h
   rw [hi2, hj2] at this
   exact (entLt_asymm hl this).elim
 refine List.mem_iff_getElem?.2 ⟨j - (i + 1), ?_⟩
 rw [List.getElem?_drop, show i + 1 + (j - (i + 1)) = j by omega]
 exact hj
theorem need_step {p : Pk} (hf : fixT st left = some (L, l, m)) {i : Nat} {y : Ent} (hi : (needT L p)[i]? = some y) :
  (∀ x, 0 < i → (needT L p)[i - 1]? = some x → entLt x y) ∧ 0 ≤ y.stage ∧ st.isSeed y.pkg = decide (y.stage = 0) ∧
  (0 < y.stage → holdsB st y.pkg ((((needT L p).take i).filter fun z => decide (z.stage < y.stage)).map Ent.pkg) y.choice = true) ∧
  (decide (y.pkg = p) || ((needT L p).drop (i + 1)).any fun z => usesB z y.pkg) = true := by
 have hg := fixT_good hf
 have hr := fixT_res hf
 have hy : Rch L p y := mem_needT.1 (List.mem_of_getElem? hi)
 refine ⟨fun x h0 hx => ?_, hr.stage0 hy.mem, ?_, fun h0 => ?_, ?_⟩
 ·obtain ⟨hi1, hi2⟩ := gEs.1 hi
  obtain ⟨hj1, hj2⟩ := gEs.1 hx
  have := List.pairwise_iff_getElem.1 (hg.need p) (i - 1) i hj1 hi1 (by omega)
  rwa [hi2, hj2] at this
 ·rcases hr.holds hy.mem with ⟨h1, h2⟩ | ⟨h1, h2, -⟩
  ·rw [h2, h1]; rfl
  ·rw [h2]; exact (decide_eq_false (by omega)).symm
 ·rcases hr.holds hy.mem with ⟨h1, -⟩ | ⟨-, -, h3⟩
  ·omega
  ·have hin : ∀ q, usesB y q = true → q ∈ (((needT L p).take i).filter fun z => decide (z.stage < y.stage)).map Ent.pkg := fun q hq => by
    obtain ⟨z, hz, hzq, hzs⟩ := hg.down y hy.mem q hq
    have hzr : Rch L p z := .step hy hz (by rw [hzq]; exact hq)
    exact List.mem_map.2 ⟨z, List.mem_filter.2 ⟨need_before hg hi (mem_needT.2 hzr) (.inl hzs), by simpa using hzs⟩, hzq⟩
   exact holdsB_pool h3 (hin _ (usesB_iff.2 ⟨by omega, .inl rfl⟩)) (fun q hq => hin q (usesB_iff.2 ⟨by omega, .inr hq⟩))
 ·rw [Bool.or_eq_true, decide_eq_true_eq, List.any_eq_true]
  cases hy with
  | here _ h1 => exact .inl h1
  | @step _ z hz hm hu =>
   refine .inr ⟨z, need_behind hg hi (mem_needT.2 hz) (.inl ?_), hu⟩
   obtain ⟨v, hv, hvp, hvs⟩ := hg.down z hz.mem _ hu
   rw [hg.inj hm hv hvp.symm]
   exact hvs
theorem need_parts {p : Pk} (hf : fixT st left = some (L, l, m)) {y : Ent} (hy : y ∈ needT L p) :
  st.has y.pkg = true ∧ y.pkg ∈ L.map Ent.pkg ∧ (needT L y.pkg).length ≤ (needT L p).length ∧ ∀ z ∈ needT L y.pkg, z ∈ needT L p := by
 have hg := fixT_good hf
 have hr := mem_needT.1 hy
 have hm : y.pkg ∈ L.map Ent.pkg := List.mem_map.2 ⟨y, hr.mem, rfl⟩
 have hsub : ∀ z ∈ needT L y.pkg, z ∈ needT L p := fun z hz => mem_needT.2 (Rch.trans hr rfl hg (mem_needT.1 hz))
 refine ⟨?_, hm, ?_, hsub⟩
 ·exact St.has_iff.2 (St.mem_all.1 ((fixT_res hf).all.mem_iff.1 (List.mem_append_left _ hm)))
 ·have hn : (needT L y.pkg).Nodup := ((hg.need y.pkg).imp (fun {a b} h e => by subst e; exact entLt_asymm h h))
  exact List.Nodup.length_le_of_subset hn hsub
theorem less_miss {p : Pk} (hf : fixT st left = some (L, l, m)) (h : st.has p = true) (hp : p ∉ L.map Ent.pkg) : p ∈ l := by
 have := (fixT_res hf).all.mem_iff.2 (St.mem_all.2 (St.has_iff.1 h))
 rcases List.mem_append.1 this with h | h
 ·exact absurd h hp
 ·exact h
theorem less_rest (hf : fixT st left = some (L, l, m)) {q : Pk} (hq : q ∈ l) {n e : Int} {c : Ch5} {lf : Int} (hs : solveT st q (st.all.filter fun x => !inP l x) lf = (c, n, e)) : st.has q = true ∧ st.isSeed q = false ∧ (e = 12 ∨ e = 60) := by
 have hr := fixT_res hf
 obtain ⟨h1, h2, -, -, h5⟩ := hr.misses hq
 refine ⟨h1, h2, h5 lf c n e ?_⟩
 rw [← hs]
 refine solve_pool (fun x hx => ?_)
 have hx' := hr.all.mem_iff.2 (St.mem_all.2 hx)
 rw [List.mem_filter]
 constructor
 ·intro hxL
  refine ⟨St.mem_all.2 hx, ?_⟩
  cases hi : inP l x with
  | false => rfl
  | true => exact absurd rfl ((List.nodup_append.1 hr.nodup).2.2 x hxL x (inP_iff.1 hi))
 ·rintro ⟨-, hi⟩
  rcases List.mem_append.1 hx' with g | g
  ·exact g
  ·rw [inP_iff.2 g] at hi; cases hi
end
end Go.Proofs.YtaagkndhgicifaaGreat
