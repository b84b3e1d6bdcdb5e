/- DERIVED. Plain laws of trees: Make, Mount and the order of files. -/
import Derived.Test.YtjcimajkjnjdpabGreatDoorTreeMount
namespace Go.Proofs.YtjcimajkjnjdpabGreatDoor
set_option linter.unusedVariables false

theorem makeT_zero {ps qs : List Pr} (h : makeT ps = (0, qs)) : ps.length ≤ 32 ∧ firstBad ps = none ∧ twiceB ps = false ∧ clashB ps = false ∧ sortT ps = qs := by
  unfold makeT at h
  split at h
  · cases h
  · rename_i hl
    cases hf : firstBad ps with
    | some e =>
      rw [hf] at h
      simp only [Prod.mk.injEq] at h
      obtain ⟨rfl, _⟩ := h
      exfalso
      clear hl
      induction ps with
      | nil => cases hf
      | cons p r ih =>
        unfold firstBad at hf
        split at hf
        · cases hf
        · split at hf
          · cases hf
          · exact ih hf
    | none =>
      rw [hf] at h
      simp only at h
      split at h
      · cases h
      · rename_i ht
        split at h
        · cases h
        · rename_i hc
          exact ⟨by omega, rfl, by simpa using ht, by simpa using hc, (Prod.mk.injEq _ _ _ _ ▸ h).2⟩
theorem makeT_good {ps qs : List Pr} (h : makeT ps = (0, qs)) : goodT qs = true := by
  obtain ⟨h1, h2, h3, h4, h5⟩ := makeT_zero h
  obtain ⟨s1, s2, s3⟩ := sortT_is ps (twice_false.1 h3)
  rw [h5] at s1 s2 s3
  rw [goodT_iff, makeT_ok (by omega) (firstBad_perm s2 h2) (twice_false.2 s1.nodup) (by rw [clash_mem s2]; exact h4), sortT_eq s1.nodup s1 (fun q => Iff.rfl)]
theorem goodT_nil : goodT [] = true := by decide
theorem mountT_good {t s : List Pr} {d : List UInt8} {qs : List Pr} (h : mountT t d s = (0, qs)) : goodT qs = true := by
  unfold mountT at h
  split at h
  · split at h
    · exact makeT_good h
    · cases h
  · cases h
theorem good_len {t : List Pr} (h : goodT t = true) : t.length ≤ 32 ∧ ∀ p ∈ t, p.1.length ≤ 128 :=
  ⟨(goodT_files h).1, fun p hp => good_short (firstBad_none.1 (goodT_files h).2.1 p hp).1⟩
theorem makeT_same {ps ps' qs : List Pr} (h : makeT ps = (0, qs)) (hm : ∀ q, q ∈ ps' ↔ q ∈ ps) (hn : (ps'.map Prod.fst).Nodup) (hl : ps'.length ≤ 32) : makeT ps' = (0, qs) := by
  obtain ⟨h1, h2, h3, h4, h5⟩ := makeT_zero h
  obtain ⟨s1, s2, s3⟩ := sortT_is ps (twice_false.1 h3)
  rw [h5] at s1 s2
  rw [makeT_ok hl (firstBad_perm hm h2) (twice_false.2 hn) (by rw [clash_mem hm]; exact h4), sortT_eq hn s1 (fun q => (s2 q).trans (hm q).symm)]
theorem makeT_perm {ps ps' qs : List Pr} (h : makeT ps = (0, qs)) (hp : ps'.Perm ps) : makeT ps' = (0, qs) := by
  obtain ⟨h1, h2, h3, h4, h5⟩ := makeT_zero h
  exact makeT_same h (fun q => hp.mem_iff) ((hp.map Prod.fst).nodup_iff.2 (twice_false.1 h3)) (by rw [hp.length_eq]; exact h1)
theorem clash_sub {A B : List Pr} (h : ∀ q ∈ A, q ∈ B) (hc : clashB B = false) : clashB A = false := by
  cases ha : clashB A
  · rfl
  · exfalso
    unfold clashB at ha hc
    obtain ⟨f, hf, hg⟩ := List.any_eq_true.1 ha
    obtain ⟨g, hg, he⟩ := List.any_eq_true.1 hg
    have : (B.any fun f => B.any fun g => aheadB f.1 g.1) = true := List.any_eq_true.2 ⟨f, h f hf, List.any_eq_true.2 ⟨g, h g hg, he⟩⟩
    rw [hc] at this; cases this
theorem makeT_front {A B qs : List Pr} (h : makeT (A ++ B) = (0, qs)) : makeT A = (0, sortT A) := by
  obtain ⟨h1, h2, h3, h4, h5⟩ := makeT_zero h
  rw [List.length_append] at h1
  have hn := twice_false.1 h3
  rw [List.map_append, List.nodup_append] at hn
  exact makeT_ok (by omega) (firstBad_none.2 fun p hp => firstBad_none.1 h2 p (List.mem_append_left _ hp)) (twice_false.2 hn.1) (clash_sub (fun q hq => List.mem_append_left _ hq) h4)
theorem makeT_swap {L out s : List Pr} {qs : List Pr} (hL : makeT L = (0, out)) : makeT (out ++ s) = (0, qs) ↔ makeT (L ++ s) = (0, qs) := by
  obtain ⟨h1, h2, h3, h4, h5⟩ := makeT_zero hL
  obtain ⟨s1, s2, s3⟩ := sortT_is L (twice_false.1 h3)
  rw [h5] at s1 s2 s3
  have hmem : ∀ q, q ∈ out ++ s ↔ q ∈ L ++ s := fun q => by rw [List.mem_append, List.mem_append, s2]
  have hfst : ∀ (A B : List Pr), (∀ q, q ∈ A ↔ q ∈ B) → (A.map Prod.fst).Nodup → ((B ++ s).map Prod.fst).Nodup → ((A ++ s).map Prod.fst).Nodup := by
    intro A B hAB hA hB
    rw [List.map_append, List.nodup_append] at hB ⊢
    refine ⟨hA, hB.2.1, fun a ha b hb => hB.2.2 a ?_ b hb⟩
    obtain ⟨x, hx, rfl⟩ := List.mem_map.1 ha
    exact List.mem_map_of_mem ((hAB x).1 hx)
  constructor
  · intro h
    obtain ⟨g1, g2, g3, _⟩ := makeT_zero h
    exact makeT_same h (fun q => (hmem q).symm) (hfst L out (fun q => (s2 q).symm) (twice_false.1 h3) (twice_false.1 g3)) (by rw [List.length_append] at g1 ⊢; omega)
  · intro h
    obtain ⟨g1, g2, g3, _⟩ := makeT_zero h
    exact makeT_same h hmem (hfst out L s2 s1.nodup (twice_false.1 g3)) (by rw [List.length_append] at g1 ⊢; omega)
theorem makeT_bad_nil {ps : List Pr} {x : Int} {t : List Pr} (h : makeT ps = (x, t)) (hx : x ≠ 0) : t = [] := by
  unfold makeT at h
  split at h
  · exact (Prod.mk.inj h).2.symm
  · split at h
    · exact (Prod.mk.inj h).2.symm
    · split at h
      · exact (Prod.mk.inj h).2.symm
      · split at h
        · exact (Prod.mk.inj h).2.symm
        · exact absurd (Prod.mk.inj h).1.symm hx
theorem makeT_good2 (ps : List Pr) : goodT (makeT ps).2 = true := by
  cases h : makeT ps with
  | mk x t =>
  by_cases hx : x = 0
  · subst hx; exact makeT_good h
  · rw [makeT_bad_nil h hx]; exact goodT_nil
/-- The number that Make answers, where neither a path nor a length is at fault, hangs on no order. -/
theorem makeT_perm_or {ps ps' : List Pr} (hp : ps'.Perm ps) : makeT ps' = makeT ps ∨ (((makeT ps).1 = 10 ∨ (makeT ps).1 = 3) ∧ ((makeT ps').1 = 10 ∨ (makeT ps').1 = 3)) := by
  by_cases hl : 32 < ps.length
  · left; rw [makeT_many hl, makeT_many (by rw [hp.length_eq]; exact hl)]
  · cases hb : firstBad ps with
    | none =>
      left
      have hb' := firstBad_perm (fun q => hp.mem_iff (a := q)) hb
      cases ht : twiceB ps with
      | true => rw [makeT_twice (by omega) hb ht, makeT_twice (by rw [hp.length_eq]; omega) hb' (by rw [twice_perm hp]; exact ht)]
      | false =>
        cases hc : clashB ps with
        | true => rw [makeT_clash (by omega) hb ht hc, makeT_clash (by rw [hp.length_eq]; omega) hb' (by rw [twice_perm hp]; exact ht) (by rw [clash_mem (fun q => hp.mem_iff (a := q))]; exact hc)]
        | false => rw [makeT_ok (by omega) hb ht hc]; exact makeT_perm (makeT_ok (by omega) hb ht hc) hp
    | some e =>
      right
      have h3 : ∀ {l : List Pr} {e : Int}, firstBad l = some e → e = 10 ∨ e = 3 := by
        intro l
        induction l with
        | nil => intro e h; cases h
        | cons p r ih =>
          intro e h
          unfold firstBad at h
          split at h
          · exact .inl (Option.some.inj h).symm
          · split at h
            · exact .inr (Option.some.inj h).symm
            · exact ih h
      cases hb' : firstBad ps' with
      | none =>
        have := firstBad_perm (fun q => (hp.symm).mem_iff (a := q)) hb'
        rw [hb] at this; cases this
      | some e' =>
        rw [makeT_bad (by omega) hb, makeT_bad (by rw [hp.length_eq]; omega) hb']
        exact ⟨h3 hb, h3 hb'⟩
end Go.Proofs.YtjcimajkjnjdpabGreatDoor
