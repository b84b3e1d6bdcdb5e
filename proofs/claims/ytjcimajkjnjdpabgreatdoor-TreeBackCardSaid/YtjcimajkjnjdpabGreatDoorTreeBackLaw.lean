/- DERIVED. What was put is got; what was mounted in an empty place is cut out of it: plain law. -/
import Derived.Test.YtjcimajkjnjdpabGreatDoorTreeMtsLaw
import Derived.Test.YtjcimajkjnjdpabGreatDoorTreeCut
import Derived.Test.YtjcimajkjnjdpabGreatDoorTreePut
import Derived.Test.YtjcimajkjnjdpabGreatDoorTreeGet
namespace Go.Proofs.YtjcimajkjnjdpabGreatDoor
set_option linter.unusedVariables false

theorem good_ahead {a b : List UInt8} (h : goodB (a ++ 47 :: b) = true) : goodB a = true ∧ goodB b = true := by
  unfold goodB at h ⊢
  rw [pieces_at] at h
  simp only [Bool.and_eq_true, decide_eq_true_iff, List.length_append, List.all_append, List.length_cons] at h ⊢
  obtain ⟨⟨h1, h2⟩, h3, h4⟩ := h
  exact ⟨⟨⟨by omega, by omega⟩, h3⟩, ⟨by omega, by omega⟩, h4⟩
theorem take_stroke {d s : List UInt8} (h : s.take (d.length + 1) = d ++ [47]) : s = d ++ 47 :: s.drop (d.length + 1) := by
  rw [← List.take_append_drop (d.length + 1) s, h]
  simp
theorem good_srt {t : List Pr} (h : goodT t = true) : Srt t := (goodT_files h).2.2.1
theorem put_got {t u : List Pr} {f : Pr} (h : putT2 t f = (0, u)) : getT u f.1 = (f.2, true) ∧ ∀ g ∈ t, g.1 ≠ f.1 → getT u g.1 = (g.2, true) := by
  unfold putT2 at h
  split at h
  · obtain ⟨h1, h2, h3, h4, h5⟩ := makeT_zero h
    obtain ⟨s1, s2, s3⟩ := sortT_is _ (twice_false.1 h3)
    rw [h5] at s1 s2
    refine ⟨getT_in s1.nodup ((s2 _).2 (by simp)), fun g hg hne => getT_in s1.nodup ((s2 _).2 ?_)⟩
    rw [List.mem_append, List.mem_filter]
    exact .inl ⟨hg, by simpa using hne⟩
  · cases (Prod.mk.inj h).1
theorem cutF_some {d : List UInt8} {f g : Pr} (hd : goodB d = true) (hf : goodB f.1 = true) (h : cutF d f = some g) : f.1 = d ++ 47 :: g.1 ∧ f.2 = g.2 := by
  unfold cutF at h
  split at h
  · rename_i hu
    rw [under_true hd hf] at hu
    have hsp : f.1 = d ++ 47 :: f.1.drop (d.length + 1) := by
      conv => lhs; rw [← List.take_append_drop (d.length + 1) f.1]
      rw [hu]; simp
    have hs := under_self (s := f.1.drop (d.length + 1)) hd (by rw [← hsp]; exact hf)
    rw [← hsp] at hs
    rw [hs] at h
    obtain rfl := Option.some.inj h
    exact ⟨hsp, rfl⟩
  · cases h
theorem cutF_of {d : List UInt8} {s : List UInt8} {v : List UInt8} (hd : goodB d = true) (hf : goodB (d ++ 47 :: s) = true) : cutF d (d ++ 47 :: s, v) = some (s, v) := by
  unfold cutF
  rw [under_self hd hf]
  rfl
theorem cutL_mem {d : List UInt8} {t : List Pr} (hd : goodB d = true) (ht : ∀ p ∈ t, goodB p.1 = true) (g : Pr) : g ∈ cutL d t ↔ (d ++ 47 :: g.1, g.2) ∈ t := by
  unfold cutL
  rw [List.mem_filterMap]
  constructor
  · rintro ⟨f, hf, e⟩
    obtain ⟨e1, e2⟩ := cutF_some hd (ht f hf) e
    rw [← e1, ← e2]; exact hf
  · intro h
    exact ⟨_, h, cutF_of hd (ht _ h)⟩
theorem cutL_nodup {d : List UInt8} {t : List Pr} (hd : goodB d = true) : (∀ p ∈ t, goodB p.1 = true) → (t.map Prod.fst).Nodup → ((cutL d t).map Prod.fst).Nodup := by
  induction t with
  | nil => intro _ _; exact List.nodup_nil
  | cons f l ih =>
    intro hl hn
    rw [List.map_cons, List.nodup_cons] at hn
    have ih := ih (fun g hg => hl g (List.mem_cons_of_mem _ hg)) hn.2
    unfold cutL
    rw [List.filterMap_cons]
    cases hc : cutF d f with
    | none => exact ih
    | some g =>
      simp only
      rw [List.map_cons, List.nodup_cons]
      refine ⟨fun hgm => ?_, ih⟩
      obtain ⟨g2, hg2, e2⟩ := List.mem_map.1 hgm
      have := (cutL_mem hd (fun p hp => hl p (List.mem_cons_of_mem _ hp)) g2).1 hg2
      have a1 := (cutF_some hd (hl f (by simp)) hc).1
      exact hn.1 (List.mem_map.2 ⟨_, this, by rw [a1, e2]⟩)
/-- Cut of a tree that can be, at a path, answers. -/
theorem cut_ok {t : List Pr} {d : List UInt8} (ht : goodT t = true) (hd : goodB d = true) : ∃ c, cutT t d = (0, c) ∧ (c = [] ↔ cutL d t = []) := by
  have hf := goodT_files ht
  have hg : ∀ p ∈ t, goodB p.1 = true := fun p hp => (firstBad_none.1 hf.2.1 p hp).1
  have hle : (cutL d t).length ≤ t.length := List.length_filterMap_le _ _
  have hb : firstBad (cutL d t) = none := firstBad_none.2 fun p hp => by
    have := (cutL_mem hd hg p).1 hp
    exact ⟨(good_ahead (hg _ this)).2, (firstBad_none.1 hf.2.1 _ this).2⟩
  have htw : twiceB (cutL d t) = false := twice_false.2 (cutL_nodup hd hg hf.2.2.1.nodup)
  have hcl : clashB (cutL d t) = false := by
    cases hc : clashB (cutL d t)
    · rfl
    · exfalso
      unfold clashB at hc
      obtain ⟨f, hf1, hg1⟩ := List.any_eq_true.1 hc
      obtain ⟨g, hg2, he⟩ := List.any_eq_true.1 hg1
      have : clashB t = true := by
        unfold clashB
        refine List.any_eq_true.2 ⟨_, (cutL_mem hd hg f).1 hf1, List.any_eq_true.2 ⟨_, (cutL_mem hd hg g).1 hg2, ?_⟩⟩
        unfold aheadB at he ⊢
        rw [decide_eq_true_iff] at he ⊢
        show (d ++ 47 :: g.1).take ((d ++ 47 :: f.1).length + 1) = d ++ 47 :: f.1 ++ [47]
        rw [show (d ++ 47 :: f.1).length + 1 = (d ++ [47]).length + (f.1.length + 1) by simp; omega, show d ++ 47 :: g.1 = (d ++ [47]) ++ g.1 by simp, List.take_length_add_append, he]
        simp
      rw [hf.2.2.2] at this; cases this
  have hm := makeT_ok (by omega) hb htw hcl
  refine ⟨sortT (cutL d t), ?_, ?_⟩
  · unfold cutT
    rw [if_pos ht, if_pos (show placeB d = true by unfold placeB; rw [hd]; simp), hm]
  · have s3 := (sortT_is _ (twice_false.1 htw)).2.2
    constructor
    · intro h
      rw [h] at s3
      exact List.eq_nil_of_length_eq_zero s3.symm
    · intro h
      rw [h]; rfl
/-- What was mounted in an empty place is cut out of it. -/
theorem cut_mount {t u s : List Pr} {d : List UInt8} (hd : goodB d = true) (he : cutL d t = []) (hm : mountT t d s = (0, u)) : cutT u d = (0, s) := by
  obtain ⟨ht, hs, _, ha, hk⟩ := mountT_parts hm
  have hgu := makeT_good hk
  have hfu := goodT_files hgu
  have hgt : ∀ p ∈ t, goodB p.1 = true := fun p hp => (firstBad_none.1 (goodT_files ht).2.1 p hp).1
  have hgu' : ∀ p ∈ u, goodB p.1 = true := fun p hp => (firstBad_none.1 hfu.2.1 p hp).1
  obtain ⟨z1, z2, z3, z4, z5⟩ := makeT_zero hk
  obtain ⟨s1, s2, s3⟩ := sortT_is _ (twice_false.1 z3)
  rw [z5] at s1 s2 s3
  have hmem : ∀ q, q ∈ cutL d u ↔ q ∈ s := by
    intro q
    rw [cutL_mem hd hgu', s2, List.mem_append]
    constructor
    · rintro (h | h)
      · exfalso
        have := (cutL_mem hd hgt q).2 h
        rw [he] at this; cases this
      · obtain ⟨r, hr, e⟩ := List.mem_map.1 h
        unfold behF at e
        rw [behind_is (good_ne hd)] at e
        obtain ⟨e1, e2⟩ := Prod.mk.inj e
        have := List.append_cancel_left e1
        obtain ⟨_, e3⟩ := List.cons.inj this
        have : r = q := Prod.ext e3 e2
        rwa [this] at hr
    · intro h
      exact .inr (List.mem_map.2 ⟨q, h, by unfold behF; rw [behind_is (good_ne hd)]⟩)
  unfold cutT
  rw [if_pos hgu, if_pos (show placeB d = true by unfold placeB; rw [hd]; simp)]
  have hle : (cutL d u).length ≤ u.length := List.length_filterMap_le _ _
  exact makeT_same (goodT_iff.1 hs) hmem (cutL_nodup hd hgu' s1.nodup) (by have := hfu.1; omega)
end Go.Proofs.YtjcimajkjnjdpabGreatDoor
