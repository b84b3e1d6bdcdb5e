/- DERIVED. The order of mounts: plain law. -/
import Derived.Test.YtknokfhmkhdieaaDoorViewMath
namespace Go.Proofs.YtknokfhmkhdieaaDoor
set_option linter.unusedVariables false
theorem makeT_same {ps ps' qs : List Pr} (h : makeT ps = (0, qs)) (hm : ∀ q, q ∈ ps' ↔ q ∈ ps) (hn : (ps'.map Prod.fst).Nodup) (hl : ps'.length ≤ 32) : makeT ps' = (0, qs) := by
  obtain ⟨h1, h2, h3, h4, h5⟩ := makeT_zero h
  obtain ⟨s1, s2, s3⟩ := sortT_is ps (twice_false.1 h3)
  rw [h5] at s1 s2
  rw [makeT_ok hl (firstBad_perm hm h2) (twice_false.2 hn) (by rw [clash_mem hm]; exact h4), sortT_eq hn s1 (fun q => (s2 q).trans (hm q).symm)]
theorem makeT_perm {ps ps' qs : List Pr} (h : makeT ps = (0, qs)) (hp : ps'.Perm ps) : makeT ps' = (0, qs) := by
  obtain ⟨h1, h2, h3, h4, h5⟩ := makeT_zero h
  exact makeT_same h (fun q => hp.mem_iff) ((hp.map Prod.fst).nodup_iff.2 (twice_false.1 h3)) (by rw [hp.length_eq]; exact h1)
theorem clash_sub {A B : List Pr} (h : ∀ q ∈ A, q ∈ B) (hc : clashB B = false) : clashB A = false := by
  cases ha : clashB A
  · rfl
  · exfalso
    unfold clashB at ha hc
    obtain ⟨f, hf, hg⟩ := List.any_eq_true.1 ha
    obtain ⟨g, hg, he⟩ := List.any_eq_true.1 hg
    have : (B.any fun f => B.any fun g => aheadB f.1 g.1) = true := List.any_eq_true.2 ⟨f, h f hf, List.any_eq_true.2 ⟨g, h g hg, he⟩⟩
    rw [hc] at this; cases this
theorem makeT_front {A B qs : List Pr} (h : makeT (A ++ B) = (0, qs)) : makeT A = (0, sortT A) := by
  obtain ⟨h1, h2, h3, h4, h5⟩ := makeT_zero h
  rw [List.length_append] at h1
  have hn := twice_false.1 h3
  rw [List.map_append, List.nodup_append] at hn
  exact makeT_ok (by omega) (firstBad_none.2 fun p hp => firstBad_none.1 h2 p (List.mem_append_left _ hp)) (twice_false.2 hn.1) (clash_sub (fun q hq => List.mem_append_left _ hq) h4)
def flatM (ms : List Mt) : List Pr := ms.flatMap (fun m => m.2.map (behF m.1))
theorem flatM_cons (m : Mt) (r : List Mt) : flatM (m :: r) = m.2.map (behF m.1) ++ flatM r := by simp [flatM]
structure OkM (m : Mt) : Prop where
  good : goodT m.2 = true
  place : placeB m.1 = true
  all : m.2.all (fun p => goodB (putBehind m.1 p.1)) = true
theorem mountT_zero {t s qs : List Pr} {d : List UInt8} : mountT t d s = (0, qs) ↔ goodT t = true ∧ OkM (d, s) ∧ makeT (t ++ s.map (behF d)) = (0, qs) := by
  unfold mountT
  constructor
  · intro h
    split at h
    · rename_i h1
      split at h
      · rename_i h2
        exact ⟨h1.1, ⟨h1.2, h2.1, h2.2⟩, h⟩
      · cases h
    · cases h
  · rintro ⟨h1, ⟨h2, h3, h4⟩, h5⟩
    rw [if_pos ⟨h1, h2⟩, if_pos ⟨h3, h4⟩]
    exact h5
theorem makeT_swap {L out s : List Pr} {qs : List Pr} (hL : makeT L = (0, out)) : makeT (out ++ s) = (0, qs) ↔ makeT (L ++ s) = (0, qs) := by
  obtain ⟨h1, h2, h3, h4, h5⟩ := makeT_zero hL
  obtain ⟨s1, s2, s3⟩ := sortT_is L (twice_false.1 h3)
  rw [h5] at s1 s2 s3
  have hmem : ∀ q, q ∈ out ++ s ↔ q ∈ L ++ s := fun q => by rw [List.mem_append, List.mem_append, s2]
  have hfst : ∀ (A B : List Pr), (∀ q, q ∈ A ↔ q ∈ B) → (A.map Prod.fst).Nodup → ((B ++ s).map Prod.fst).Nodup → ((A ++ s).map Prod.fst).Nodup := by
    intro A B hAB hA hB
    rw [List.map_append, List.nodup_append] at hB ⊢
    refine ⟨hA, hB.2.1, fun a ha b hb => hB.2.2 a ?_ b hb⟩
    obtain ⟨x, hx, rfl⟩ := List.mem_map.1 ha
    exact List.mem_map_of_mem ((hAB x).1 hx)
  constructor
  · intro h
    obtain ⟨g1, g2, g3, _⟩ := makeT_zero h
    exact makeT_same h (fun q => (hmem q).symm) (hfst L out (fun q => (s2 q).symm) (twice_false.1 h3) (twice_false.1 g3)) (by rw [List.length_append] at g1 ⊢; omega)
  · intro h
    obtain ⟨g1, g2, g3, _⟩ := makeT_zero h
    exact makeT_same h hmem (hfst out L s2 s1.nodup (twice_false.1 g3)) (by rw [List.length_append] at g1 ⊢; omega)
theorem mountAll_iff : ∀ (ms : List Mt) (L out t : List Pr), makeT L = (0, out) → (mountAll out ms = (0, t) ↔ (∀ m ∈ ms, OkM m) ∧ makeT (L ++ flatM ms) = (0, t))
  | [], L, out, t, hL => by
    show (0, out) = (0, t) ↔ _
    rw [show flatM [] = [] from rfl, List.append_nil, hL]
    constructor
    · intro h; exact ⟨(fun m hm => by cases hm), h⟩
    · exact fun h => h.2
  | m :: r, L, out, t, hL => by
    rw [flatM_cons, ← List.append_assoc]
    show (if (mountT out m.1 m.2).1 = 0 then mountAll (mountT out m.1 m.2).2 r else ((mountT out m.1 m.2).1, [])) = (0, t) ↔ _
    cases hm : mountT out m.1 m.2 with
    | mk x t1 =>
    dsimp only
    by_cases hx : x = 0
    · subst hx
      rw [if_pos rfl]
      obtain ⟨g1, g2, g3⟩ := mountT_zero.1 hm
      have ih := mountAll_iff r (L ++ m.2.map (behF m.1)) t1 t ((makeT_swap hL).1 g3)
      rw [ih]
      constructor
      · rintro ⟨i1, i2⟩
        refine ⟨fun k hk => ?_, i2⟩
        rcases List.mem_cons.1 hk with rfl | hk
        · exact g2
        · exact i1 k hk
      · rintro ⟨i1, i2⟩
        exact ⟨fun k hk => i1 k (List.mem_cons_of_mem _ hk), i2⟩
    · rw [if_neg hx]
      constructor
      · intro h; exact absurd (Prod.mk.inj h).1 hx
      · rintro ⟨i1, i2⟩
        exfalso
        have hf := makeT_front i2
        have := (mountT_zero (t := out) (s := m.2) (d := m.1)).2 ⟨makeT_good hL, i1 m (by simp), (makeT_swap hL).2 hf⟩
        rw [hm] at this
        exact hx (Prod.mk.inj this).1
theorem checkT_none : ∀ (ms seen : List Mt), checkT seen ms = none ↔ (∀ m ∈ ms, goodB m.1 = true) ∧ (∀ m ∈ ms, ∀ k ∈ seen, nearB k.1 m.1 = false) ∧ ms.Pairwise (fun a b => nearB a.1 b.1 = false)
  | [], seen => by
    constructor
    · intro _; exact ⟨(fun m hm => by cases hm), (fun m hm => by cases hm), List.Pairwise.nil⟩
    · intro _; rfl
  | m :: r, seen => by
    have ih := checkT_none r (seen ++ [m])
    show (if goodB m.1 = false then some 10 else if seen.any (fun k => nearB k.1 m.1) = true then some 12 else checkT (seen ++ [m]) r) = none ↔ _
    rw [List.pairwise_cons]
    by_cases h1 : goodB m.1 = false
    · rw [if_pos h1]
      constructor
      · intro h; cases h
      · rintro ⟨h, _⟩; have := h m (by simp); rw [h1] at this; cases this
    · rw [if_neg h1]
      by_cases h2 : seen.any (fun k => nearB k.1 m.1) = true
      · rw [if_pos h2]
        constructor
        · intro h; cases h
        · rintro ⟨_, h, _⟩
          obtain ⟨k, hk, he⟩ := List.any_eq_true.1 h2
          have := h m (by simp) k hk
          rw [this] at he; cases he
      · rw [if_neg h2, ih]
        have hs : ∀ k ∈ seen, nearB k.1 m.1 = false := fun k hk => by
          cases h : nearB k.1 m.1
          · rfl
          · exact absurd (List.any_eq_true.2 ⟨k, hk, h⟩) h2
        constructor
        · rintro ⟨i1, i2, i3⟩
          refine ⟨fun k hk => ?_, fun k hk x hx => ?_, fun k hk => i2 k hk m (by simp), i3⟩
          · rcases List.mem_cons.1 hk with rfl | hk
            · simpa using h1
            · exact i1 k hk
          · rcases List.mem_cons.1 hk with rfl | hk
            · exact hs x hx
            · exact i2 k hk x (List.mem_append_left _ hx)
        · rintro ⟨i1, i2, i3, i4⟩
          refine ⟨fun k hk => i1 k (List.mem_cons_of_mem _ hk), fun k hk x hx => ?_, i4⟩
          rcases List.mem_append.1 hx with hx | hx
          · exact i2 k (List.mem_cons_of_mem _ hk) x hx
          · obtain rfl := List.mem_singleton.1 hx
            exact i3 k hk
theorem makeT_nil : makeT [] = (0, []) := rfl
theorem buildT_iff {ms : List Mt} {t : List Pr} : buildT ms = (0, t) ↔ checkT [] ms = none ∧ (∀ m ∈ ms, OkM m) ∧ makeT (flatM ms) = (0, t) := by
  unfold buildT
  cases hc : checkT [] ms with
  | some e =>
    dsimp only
    constructor
    · intro h
      exfalso
      obtain rfl := (Prod.mk.inj h).1
      have : ∀ (ms seen : List Mt), checkT seen ms ≠ some 0 := by
        intro ms
        induction ms with
        | nil => intro seen h; cases h
        | cons m r ih =>
          intro seen h
          unfold checkT at h
          split at h
          · cases h
          · split at h
            · cases h
            · exact ih _ h
      exact this _ _ hc
    · rintro ⟨h, _⟩; cases h
  | none =>
    dsimp only
    rw [mountAll_iff ms [] [] t makeT_nil, List.nil_append]
    exact ⟨fun h => ⟨rfl, h⟩, fun h => h.2⟩
theorem nearB_comm (a b : List UInt8) : nearB a b = nearB b a := by
  unfold nearB
  rw [Bool.eq_iff_iff]
  simp only [Bool.or_eq_true, decide_eq_true_iff]
  constructor
  · rintro ((h | h) | h)
    · exact .inl (.inl h.symm)
    · exact .inr h
    · exact .inl (.inr h)
  · rintro ((h | h) | h)
    · exact .inl (.inl h.symm)
    · exact .inr h
    · exact .inl (.inr h)
theorem buildT_perm {ms ms' : List Mt} {t : List Pr} (hp : ms'.Perm ms) (h : buildT ms = (0, t)) : buildT ms' = (0, t) := by
  rw [buildT_iff] at h ⊢
  obtain ⟨h1, h2, h3⟩ := h
  obtain ⟨c1, c2, c3⟩ := (checkT_none _ _).1 h1
  refine ⟨(checkT_none _ _).2 ⟨fun m hm => c1 m (hp.mem_iff.1 hm), (fun m hm k hk => by cases hk), ?_⟩, fun m hm => h2 m (hp.mem_iff.1 hm), makeT_perm h3 ?_⟩
  · exact (hp.pairwise_iff (fun {x y} h => by rw [nearB_comm]; exact h)).2 c3
  · exact hp.flatMap_right _
theorem mountAll_bad : ∀ (ms : List Mt) (out t : List Pr) (x : Int), mountAll out ms = (x, t) → x ≠ 0 → t = []
  | [], out, t, x, h, hx => by
    exact absurd (Prod.mk.inj h).1.symm hx
  | m :: r, out, t, x, h, hx => by
    unfold mountAll at h
    split at h
    · exact mountAll_bad r _ t x h hx
    · exact (Prod.mk.inj h).2.symm
theorem buildT_bad {ms : List Mt} {t : List Pr} {x : Int} (h : buildT ms = (x, t)) (hx : x ≠ 0) : t = [] := by
  unfold buildT at h
  split at h
  · exact (Prod.mk.inj h).2.symm
  · exact mountAll_bad _ _ _ _ h hx
end Go.Proofs.YtknokfhmkhdieaaDoor
