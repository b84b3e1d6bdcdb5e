/- DERIVED. What Build answers, as a plain function. -/
import Derived.Test.YtknokfhmkhdieaaDoorViewNear
namespace Go.Proofs.YtknokfhmkhdieaaDoor
open Go.RowKit
set_option linter.unusedVariables false

def checkT : List Mt → List Mt → Option Int
  | _, [] => none
  | seen, m :: r => if goodB m.1 = false then some 10 else if seen.any (fun k => nearB k.1 m.1) = true then some 12 else checkT (seen ++ [m]) r
def mountAll : List Pr → List Mt → Int × List Pr
  | out, [] => (0, out)
  | out, m :: r => if (mountT out m.1 m.2).1 = 0 then mountAll (mountT out m.1 m.2).2 r else ((mountT out m.1 m.2).1, [])
def buildT (ms : List Mt) : Int × List Pr := match checkT [] ms with
  | some e => (e, [])
  | none => mountAll [] ms
theorem drop_cons {α : Type} {ms : List α} {k : Nat} {m : α} (h : ms[k]? = some m) : ms.drop k = m :: ms.drop (k + 1) := by
  obtain ⟨h1, h2⟩ := List.getElem?_eq_some_iff.1 h
  rw [List.drop_eq_getElem_cons h1, h2]
theorem checkT_at {ms : List Mt} {k : Nat} {m : Mt} (h : ms[k]? = some m) : checkT (ms.take k) (ms.drop k) = if goodB m.1 = false then some 10 else if (ms.take k).any (fun x => nearB x.1 m.1) = true then some 12 else checkT (ms.take (k + 1)) (ms.drop (k + 1)) := by
  rw [drop_cons h]
  conv => lhs; unfold checkT
  rw [List.take_add_one, h]
  rfl
theorem mountAll_at {ms : List Mt} {k : Nat} {m : Mt} (h : ms[k]? = some m) (out : List Pr) : mountAll out (ms.drop k) = if (mountT out m.1 m.2).1 = 0 then mountAll (mountT out m.1 m.2).2 (ms.drop (k + 1)) else ((mountT out m.1 m.2).1, []) := by
  rw [drop_cons h]
  rfl
theorem makeT_zero {ps qs : List Pr} (h : makeT ps = (0, qs)) : ps.length ≤ 32 ∧ firstBad ps = none ∧ twiceB ps = false ∧ clashB ps = false ∧ sortT ps = qs := by
  unfold makeT at h
  split at h
  · cases h
  · rename_i hl
    cases hf : firstBad ps with
    | some e =>
      rw [hf] at h
      simp only [Prod.mk.injEq] at h
      obtain ⟨rfl, _⟩ := h
      exfalso
      clear hl
      induction ps with
      | nil => cases hf
      | cons p r ih =>
        unfold firstBad at hf
        split at hf
        · cases hf
        · split at hf
          · cases hf
          · exact ih hf
    | none =>
      rw [hf] at h
      simp only at h
      split at h
      · cases h
      · rename_i ht
        split at h
        · cases h
        · rename_i hc
          exact ⟨by omega, rfl, by simpa using ht, by simpa using hc, (Prod.mk.injEq _ _ _ _ ▸ h).2⟩
theorem makeT_good {ps qs : List Pr} (h : makeT ps = (0, qs)) : goodT qs = true := by
  obtain ⟨h1, h2, h3, h4, h5⟩ := makeT_zero h
  obtain ⟨s1, s2, s3⟩ := sortT_is ps (twice_false.1 h3)
  rw [h5] at s1 s2 s3
  rw [goodT_iff, makeT_ok (by omega) (firstBad_perm s2 h2) (twice_false.2 s1.nodup) (by rw [clash_mem s2]; exact h4), sortT_eq s1.nodup s1 (fun q => Iff.rfl)]
theorem goodT_nil : goodT [] = true := by decide
theorem mountT_good {t s : List Pr} {d : List UInt8} {qs : List Pr} (h : mountT t d s = (0, qs)) : goodT qs = true := by
  unfold mountT at h
  split at h
  · split at h
    · exact makeT_good h
    · cases h
  · cases h
theorem good_len {t : List Pr} (h : goodT t = true) : t.length ≤ 32 ∧ ∀ p ∈ t, p.1.length ≤ 128 :=
  ⟨(goodT_files h).1, fun p hp => good_short (firstBad_none.1 (goodT_files h).2.1 p hp).1⟩
end Go.Proofs.YtknokfhmkhdieaaDoor
