/- DERIVED. The two Cuts answer the same: plain law. -/
import Derived.Test.YtjcimajkjnjdpaaGreatDoorTreeBackLaw
import Derived.Test.YtjcimajkjnjdpaaGreatDoorTreeRefDrop
namespace Go.Proofs.YtjcimajkjnjdpaaGreatDoor
set_option linter.unusedVariables false

theorem less_front (d : List UInt8) : ∀ a b : List UInt8, Op.bytesLess (d ++ a) (d ++ b) = Op.bytesLess a b := by
  induction d with
  | nil => intro a b; rfl
  | cons x d ih =>
    intro a b
    simp only [List.cons_append, Op.bytesLess, ih a b]
    simp [UInt8.lt_irrefl]
theorem cutL_srt {d : List UInt8} {t : List Pr} (hd : goodB d = true) : (∀ p ∈ t, goodB p.1 = true) → Srt t → Srt (cutL d t) := by
  induction t with
  | nil => intro _ _; exact List.Pairwise.nil
  | cons f l ih =>
    intro hl hn
    obtain ⟨h1, h2⟩ := List.pairwise_cons.1 hn
    have ih := ih (fun g hg => hl g (List.mem_cons_of_mem _ hg)) h2
    unfold cutL
    rw [List.filterMap_cons]
    cases hc : cutF d f with
    | none => exact ih
    | some g =>
      refine List.pairwise_cons.2 ⟨fun q hq => ?_, ih⟩
      have hq2 := (cutL_mem hd (fun p hp => hl p (List.mem_cons_of_mem _ hp)) q).1 hq
      have a1 := (cutF_some hd (hl f (by simp)) hc).1
      have h3 := h1 _ hq2
      rw [a1] at h3
      have h4 : Op.bytesLess ((d ++ [47]) ++ g.1) ((d ++ [47]) ++ q.1) = true := by simpa using h3
      rw [less_front] at h4
      exact h4
theorem cutL_empty {t : List Pr} (ht : ∀ p ∈ t, goodB p.1 = true) : cutL [] t = t := by
  induction t with
  | nil => rfl
  | cons f l ih =>
    have ih := ih (fun p hp => ht p (List.mem_cons_of_mem _ hp))
    have hf : cutF [] f = some f := by
      unfold cutF underP placeB
      simp [ht f (by simp)]
    unfold cutL at ih ⊢
    rw [List.filterMap_cons, hf]
    simp only
    rw [ih]
/-- Cut with Make behind it, and Cut without. -/
theorem cut_same (t : List Pr) (d : List UInt8) : cutT t d = rcutT t d := by
  unfold cutT rcutT
  cases ht : goodT t
  · rfl
  · rw [if_pos rfl, if_pos rfl]
    cases hp : placeB d
    · rfl
    · rw [if_pos rfl, if_pos rfl]
      have hf := goodT_files ht
      have hg : ∀ p ∈ t, goodB p.1 = true := fun p hp => (firstBad_none.1 hf.2.1 p hp).1
      cases hd : goodB d
      · have h0 : d = [] := by
          unfold placeB at hp
          rw [hd] at hp
          simpa using hp
        rw [h0, cutL_empty hg]
        exact goodT_iff.1 ht
      · obtain ⟨c, hc, _⟩ := cut_ok ht hd
        unfold cutT at hc
        rw [if_pos ht, if_pos hp] at hc
        obtain ⟨h1, h2, h3, h4, h5⟩ := makeT_zero hc
        rw [hc, ← h5, sortT_eq (twice_false.1 h3) (cutL_srt hd hg hf.2.2.1) (fun q => Iff.rfl)]
theorem put_le (t : List Pr) (f : Pr) : (putT2 t f).2.length ≤ t.length + 1 := by
  unfold putT2
  split
  · have h1 := makeT_le (t.filter (fun g => g.1 != f.1) ++ [f])
    have h2 := List.length_filter_le (fun g : Pr => g.1 != f.1) t
    simp at h1
    omega
  · simp
theorem drop_le (t : List Pr) (d : List UInt8) : (dropT t d).2.length ≤ t.length := by
  unfold dropT
  split
  · split
    · simp
    · exact List.length_filter_le _ _
  · simp
theorem rcut_le (t : List Pr) (d : List UInt8) : (rcutT t d).2.length ≤ t.length := by
  unfold rcutT
  split
  · split
    · exact List.length_filterMap_le _ _
    · simp
  · simp
theorem mount_le (t : List Pr) (d : List UInt8) (s : List Pr) : (mountT t d s).2.length ≤ t.length + s.length := by
  unfold mountT
  split
  · split
    · have h1 := makeT_le (t ++ s.map (behF d))
      simp at h1
      omega
    · simp
  · simp
end Go.Proofs.YtjcimajkjnjdpaaGreatDoor
