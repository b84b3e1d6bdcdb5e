/- DERIVED. A view holds just what was mounted: plain law. -/
import Derived.Test.YtknokfhmkhdieaaDoorViewLaw
import Derived.Test.YtknokfhmkhdieaaDoorTreeCut
import Derived.Test.YtknokfhmkhdieaaDoorViewOut
namespace Go.Proofs.YtknokfhmkhdieaaDoor
set_option linter.unusedVariables false

theorem behind_is {d s : List UInt8} (h : d ≠ []) : putBehind d s = d ++ 47 :: s := by unfold putBehind; rw [if_neg h]
/-- 'stands under' for places that are paths: the place and a stroke stand ahead. -/
theorem under_true {d p : List UInt8} (hd : goodB d = true) (hp : goodB p = true) : (underP d p).2 = true ↔ p.take (d.length + 1) = d ++ [47] := by
  rw [under_ahead hd hp]
  unfold aheadB
  rw [decide_eq_true_iff]
theorem take_of_pre {a b p : List UInt8} (ha : a <+: p) (hb : b <+: p) (hl : a.length ≤ b.length) : a <+: b := by
  obtain ⟨x, rfl⟩ := ha
  obtain ⟨y, hy⟩ := hb
  have h : b.take a.length = a := by
    have h1 : (b ++ y).take a.length = (a ++ x).take a.length := by rw [hy]
    rw [List.take_append_of_le_length hl, List.take_left] at h1
    exact h1
  rw [← h]
  exact List.take_prefix _ _
/-- A path that stands under two places: one of them is the other, or stands under it. -/
theorem under_two {d e p : List UInt8} (hd : goodB d = true) (he : goodB e = true) (hp : goodB p = true) (h1 : (underP d p).2 = true) (h2 : (underP e p).2 = true) : nearB d e = true := by
  rw [under_true hd hp] at h1
  rw [under_true he hp] at h2
  have p1 : d ++ [47] <+: p := by rw [← h1]; exact List.take_prefix _ _
  have p2 : e ++ [47] <+: p := by rw [← h2]; exact List.take_prefix _ _
  have key : ∀ {a b : List UInt8}, goodB a = true → goodB b = true → a ++ [47] <+: p → b ++ [47] <+: p → a.length ≤ b.length → a = b ∨ (underP a b).2 = true := by
    intro a b ga gb qa qb hl
    rcases Nat.eq_or_lt_of_le hl with h | h
    · left
      have := take_of_pre qa qb (by simp; omega)
      obtain ⟨z, hz⟩ := this
      have hz0 : z = [] := by
        have := congrArg List.length hz
        simp at this
        exact List.eq_nil_of_length_eq_zero (by omega)
      subst hz0
      rw [List.append_nil] at hz
      exact List.append_cancel_right hz
    · right
      rw [under_true ga gb]
      have hb : b <+: p := (List.prefix_append b [47]).trans qb
      obtain ⟨z, hz⟩ := take_of_pre qa hb (by simp; omega)
      rw [← hz, show a.length + 1 = (a ++ [47]).length by simp, List.take_left]
  unfold nearB
  rcases Nat.le_total d.length e.length with hl | hl
  · rcases key hd he p1 p2 hl with rfl | h
    · simp
    · simp [h]
  · rcases key he hd p2 p1 hl with rfl | h
    · simp
    · simp [h]
theorem under_self {d s : List UInt8} (hd : goodB d = true) (hp : goodB (d ++ 47 :: s) = true) : underP d (d ++ 47 :: s) = (s, true) := by
  have ht : (d ++ 47 :: s).take (d.length + 1) = d ++ [47] := by
    rw [show d ++ 47 :: s = (d ++ [47]) ++ s by simp, show d.length + 1 = (d ++ [47]).length by simp, List.take_left]
  unfold underP placeB
  rw [hp, hd, if_pos (by simp), if_neg (good_ne hd), if_pos ht]
  congr 1
  rw [show d ++ 47 :: s = (d ++ [47]) ++ s by simp, show d.length + 1 = (d ++ [47]).length by simp, List.drop_left]
structure Holds (ms : List Mt) (t : List Pr) : Prop where
  good : goodT t = true
  each : ∀ m ∈ ms, goodT m.2 = true
  cut : ∀ m ∈ ms, cutT t m.1 = (0, m.2)
  none : outP (ms.map Prod.fst) t = []
  len : t.length = (ms.map (fun m => m.2.length)).sum
theorem holds_of {ms : List Mt} {t : List Pr} (h : buildT ms = (0, t)) : Holds ms t := by
  obtain ⟨h1, h2, h3⟩ := buildT_iff.1 h
  obtain ⟨c1, _, c3⟩ := (checkT_none _ _).1 h1
  obtain ⟨z1, z2, z3, z4, z5⟩ := makeT_zero h3
  obtain ⟨s1, s2, s3⟩ := sortT_is _ (twice_false.1 z3)
  rw [z5] at s1 s2 s3
  have hmem : ∀ f, f ∈ t ↔ ∃ m ∈ ms, ∃ q ∈ m.2, f = (m.1 ++ 47 :: q.1, q.2) := by
    intro f
    rw [s2]
    unfold flatM
    rw [List.mem_flatMap]
    constructor
    · rintro ⟨m, hm, hf⟩
      obtain ⟨q, hq, rfl⟩ := List.mem_map.1 hf
      exact ⟨m, hm, q, hq, by unfold behF; rw [behind_is (good_ne (c1 m hm))]⟩
    · rintro ⟨m, hm, q, hq, rfl⟩
      exact ⟨m, hm, List.mem_map.2 ⟨q, hq, by unfold behF; rw [behind_is (good_ne (c1 m hm))]⟩⟩
  have hgp : ∀ m ∈ ms, ∀ q ∈ m.2, goodB (m.1 ++ 47 :: q.1) = true := by
    intro m hm q hq
    have := List.all_eq_true.1 (h2 m hm).all q hq
    rwa [behind_is (good_ne (c1 m hm))] at this
  have hpair := List.pairwise_iff_getElem.1 c3
  have hother : ∀ m ∈ ms, ∀ m' ∈ ms, ∀ q ∈ m'.2, (underP m.1 (m'.1 ++ 47 :: q.1)).2 = true → m' = m := by
    intro m hm m' hm' q hq hu
    have hself := under_self (c1 m' hm') (hgp m' hm' q hq)
    have hn := under_two (c1 m hm) (c1 m' hm') (hgp m' hm' q hq) hu (by rw [hself])
    obtain ⟨i, hi⟩ := List.getElem?_of_mem hm
    obtain ⟨j, hj⟩ := List.getElem?_of_mem hm'
    obtain ⟨li, ei⟩ := List.getElem?_eq_some_iff.1 hi
    obtain ⟨lj, ej⟩ := List.getElem?_eq_some_iff.1 hj
    rcases Nat.lt_trichotomy i j with hlt | rfl | hlt
    · have := hpair i j li lj hlt
      rw [ei, ej, hn] at this; cases this
    · rw [ei] at ej; exact ej.symm
    · have := hpair j i lj li hlt
      rw [ei, ej, nearB_comm, hn] at this; cases this
  have hgt := makeT_good h3
  refine ⟨hgt, fun m hm => (h2 m hm).good, fun m hm => ?_, ?_, ?_⟩
  · have hL : ∀ f, f ∈ cutL m.1 t ↔ f ∈ m.2 := by
      intro f
      unfold cutL
      rw [List.mem_filterMap]
      constructor
      · rintro ⟨g, hg, e⟩
        obtain ⟨m', hm', q, hq, rfl⟩ := (hmem g).1 hg
        unfold cutF at e
        split at e
        · rename_i hu
          obtain rfl := hother m hm m' hm' q hq hu
          rw [under_self (c1 _ hm) (hgp _ hm q hq)] at e
          obtain rfl := Option.some.inj e
          exact hq
        · cases e
      · intro hf
        refine ⟨(m.1 ++ 47 :: f.1, f.2), (hmem _).2 ⟨m, hm, f, hf, rfl⟩, ?_⟩
        unfold cutF
        rw [under_self (c1 m hm) (hgp m hm f hf)]
        rfl
    have hnd : ((cutL m.1 t).map Prod.fst).Nodup := by
      have hk : ∀ (l : List Pr), (∀ f ∈ l, f ∈ t) → (l.map Prod.fst).Nodup → ((cutL m.1 l).map Prod.fst).Nodup := by
        intro l
        induction l with
        | nil => intro _ _; exact List.nodup_nil
        | cons f l ih =>
          intro hl hn
          rw [List.map_cons, List.nodup_cons] at hn
          have ih := ih (fun g hg => hl g (List.mem_cons_of_mem _ hg)) hn.2
          unfold cutL
          rw [List.filterMap_cons]
          cases hc : cutF m.1 f with
          | none => exact ih
          | some g =>
            rw [List.map_cons, List.nodup_cons]
            refine ⟨fun hgm => ?_, ih⟩
            obtain ⟨g2, hg2, e2⟩ := List.mem_map.1 hgm
            obtain ⟨f2, hf2, hc2⟩ := List.mem_filterMap.1 hg2
            have key : ∀ x y, x ∈ t → cutF m.1 x = some y → x.1 = m.1 ++ 47 :: y.1 := by
              intro x y hx hc
              obtain ⟨m', hm', q, hq, rfl⟩ := (hmem x).1 hx
              unfold cutF at hc
              split at hc
              · rename_i hu
                obtain rfl := hother m hm m' hm' q hq hu
                rw [under_self (c1 _ hm) (hgp _ hm q hq)] at hc
                obtain rfl := Option.some.inj hc
                rfl
              · cases hc
            have a1 := key f g (hl f (by simp)) hc
            have a2 := key f2 g2 (hl f2 (List.mem_cons_of_mem _ hf2)) hc2
            exact hn.1 (List.mem_map.2 ⟨f2, hf2, by rw [a1, a2, e2]⟩)
      exact hk t (fun f hf => hf) s1.nodup
    unfold cutT
    rw [if_pos hgt, if_pos (show placeB m.1 = true by unfold placeB; rw [c1 m hm]; simp)]
    have hle : (cutL m.1 t).length ≤ t.length := List.length_filterMap_le _ _
    exact makeT_same (goodT_iff.1 (h2 m hm).good) hL hnd (by omega)
  · unfold outP
    rw [List.map_eq_nil_iff, List.filter_eq_nil_iff]
    intro f hf
    obtain ⟨m, hm, q, hq, rfl⟩ := (hmem f).1 hf
    have : inB (ms.map Prod.fst) (m.1 ++ 47 :: q.1) = true := List.any_eq_true.2 ⟨m.1, List.mem_map_of_mem hm, by rw [under_self (c1 m hm) (hgp m hm q hq)]⟩
    simp [this]
  · rw [s3]
    unfold flatM
    rw [List.length_flatMap]
    congr 1
    apply List.map_congr_left
    intro m _
    rw [List.length_map]
end Go.Proofs.YtknokfhmkhdieaaDoor
