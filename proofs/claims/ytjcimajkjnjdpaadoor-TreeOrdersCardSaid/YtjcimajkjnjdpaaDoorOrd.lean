/- DERIVED. The order of texts, byte by byte; lists of pairs by rising keys. No program in sight. -/
import GoSem.Op.String
namespace Go.Proofs.YtjcimajkjnjdpaaDoor
open Go

theorem less_irrefl : ∀ a : List UInt8, Op.bytesLess a a = false
  | [] => rfl
  | x :: a => by simp [Op.bytesLess, less_irrefl a, UInt8.lt_irrefl]
theorem less_trans : ∀ a b c : List UInt8, Op.bytesLess a b = true → Op.bytesLess b c = true → Op.bytesLess a c = true
  | _, _, [], _, h => by simp [Op.bytesLess] at h
  | _, [], _ :: _, h, _ => by simp [Op.bytesLess] at h
  | [], _ :: _, _ :: _, _, _ => by simp [Op.bytesLess]
  | x :: a, y :: b, z :: c, h1, h2 => by
    simp only [Op.bytesLess, Bool.or_eq_true, Bool.and_eq_true, decide_eq_true_eq, beq_iff_eq] at h1 h2 ⊢
    rcases h1 with h1 | ⟨rfl, h1⟩
    · rcases h2 with h2 | ⟨rfl, _⟩
      · exact .inl (UInt8.lt_trans h1 h2)
      · exact .inl h1
    · rcases h2 with h2 | ⟨rfl, h2⟩
      · exact .inl h2
      · exact .inr ⟨rfl, less_trans a b c h1 h2⟩
theorem less_total : ∀ a b : List UInt8, Op.bytesLess a b = false → Op.bytesLess b a = false → a = b
  | [], [], _, _ => rfl
  | [], _ :: _, h, _ => by simp [Op.bytesLess] at h
  | _ :: _, [], _, h => by simp [Op.bytesLess] at h
  | x :: a, y :: b, h1, h2 => by
    simp only [Op.bytesLess, Bool.or_eq_false_iff, Bool.and_eq_false_iff, decide_eq_false_iff_not, beq_eq_false_iff_ne] at h1 h2
    obtain rfl : x = y := by
      rcases UInt8.lt_or_le x y with h | h
      · exact absurd h h1.1
      · rcases UInt8.lt_or_eq_of_le h with h | h
        · exact absurd h h2.1
        · exact h.symm
    rw [less_total a b (h1.2.resolve_left (fun h => h rfl)) (h2.2.resolve_left (fun h => h rfl))]
theorem less_asymm (a b : List UInt8) (h : Op.bytesLess a b = true) : Op.bytesLess b a = false := by
  cases hb : Op.bytesLess b a
  · rfl
  · have := less_trans a b a h hb
    rw [less_irrefl] at this
    cases this
theorem less_ne {a b : List UInt8} (h : Op.bytesLess a b = true) : a ≠ b := by
  rintro rfl
  rw [less_irrefl] at h
  cases h

/-- Pairs of texts. -/
abbrev Pr := List UInt8 × List UInt8
def Srt (ps : List Pr) : Prop := ps.Pairwise (fun a b => Op.bytesLess a.1 b.1 = true)
/-- Where a key is, or would be. -/
structure Pos (ps : List Pr) (k : List UInt8) (i : Nat) : Prop where
  le : i ≤ ps.length
  low : ∀ t p, t < i → ps[t]? = some p → Op.bytesLess p.1 k = true
  high : ∀ t p, i ≤ t → ps[t]? = some p → Op.bytesLess p.1 k = false

theorem Srt.lt {ps : List Pr} (h : Srt ps) {i j : Nat} {p q : Pr} (hij : i < j) (hi : ps[i]? = some p) (hj : ps[j]? = some q) : Op.bytesLess p.1 q.1 = true := by
  obtain ⟨h1, rfl⟩ := List.getElem?_eq_some_iff.1 hi
  obtain ⟨h2, rfl⟩ := List.getElem?_eq_some_iff.1 hj
  exact List.pairwise_iff_getElem.1 h i j h1 h2 hij
theorem Srt.inj {ps : List Pr} (h : Srt ps) {p q : Pr} (hp : p ∈ ps) (hq : q ∈ ps) (e : p.1 = q.1) : p = q := by
  obtain ⟨i, hi⟩ := List.mem_iff_getElem?.1 hp
  obtain ⟨j, hj⟩ := List.mem_iff_getElem?.1 hq
  rcases Nat.lt_trichotomy i j with hl | rfl | hl
  · exact absurd e (less_ne (h.lt hl hi hj))
  · rw [hi] at hj; exact Option.some.inj hj
  · exact absurd e.symm (less_ne (h.lt hl hj hi))
/-- At the place of a key that is there stands its pair. -/
theorem Pos.at {ps : List Pr} {k : List UInt8} {i : Nat} (h : Pos ps k i) (hs : Srt ps) {v : List UInt8} (hm : (k, v) ∈ ps) : ps[i]? = some (k, v) := by
  obtain ⟨j, hj⟩ := List.mem_iff_getElem?.1 hm
  rcases Nat.lt_trichotomy i j with hl | rfl | hl
  · have hi : i < ps.length := by have := (List.getElem?_eq_some_iff.1 hj).1; omega
    have h1 := List.getElem?_eq_getElem hi
    have h2 := h.high i _ (Nat.le_refl _) h1
    rw [hs.lt hl h1 hj] at h2
    cases h2
  · exact hj
  · have h2 := h.low j _ hl hj
    rw [less_irrefl] at h2
    cases h2
theorem Pos.not_at {ps : List Pr} {k : List UInt8} {i : Nat} (h : Pos ps k i) (hm : ∀ v, (k, v) ∉ ps) (p : Pr) (hp : ps[i]? = some p) : p.1 ≠ k ∧ Op.bytesLess k p.1 = true := by
  have hne : p.1 ≠ k := fun e => hm p.2 (by rw [← e]; exact List.mem_of_getElem? hp)
  refine ⟨hne, ?_⟩
  cases hb : Op.bytesLess k p.1
  · exact absurd (less_total _ _ (h.high i p (Nat.le_refl _) hp) hb) hne
  · rfl
/-- A new pair at its place. -/
def insAt (ps : List Pr) (i : Nat) (p : Pr) : List Pr := ps.take i ++ p :: ps.drop i
theorem insAt_length (ps : List Pr) (i : Nat) (p : Pr) (h : i ≤ ps.length) : (insAt ps i p).length = ps.length + 1 := by
  simp [insAt]; omega
theorem mem_insAt {ps : List Pr} {i : Nat} {p q : Pr} : q ∈ insAt ps i p ↔ q = p ∨ q ∈ ps := by
  have : q ∈ ps ↔ q ∈ ps.take i ∨ q ∈ ps.drop i := by rw [← List.mem_append, List.take_append_drop]
  rw [this, insAt, List.mem_append, List.mem_cons]
  constructor
  · rintro (h | h | h)
    · exact .inr (.inl h)
    · exact .inl h
    · exact .inr (.inr h)
  · rintro (h | h | h)
    · exact .inr (.inl h)
    · exact .inl h
    · exact .inr (.inr h)
theorem Pos.srt {ps : List Pr} {k v : List UInt8} {i : Nat} (h : Pos ps k i) (hs : Srt ps) (hm : ∀ v, (k, v) ∉ ps) : Srt (insAt ps i (k, v)) := by
  unfold insAt Srt
  have hsp : Srt (ps.take i ++ ps.drop i) := by rw [List.take_append_drop]; exact hs
  obtain ⟨h1, h2, h3⟩ := List.pairwise_append.1 hsp
  refine List.pairwise_append.2 ⟨h1, List.pairwise_cons.2 ⟨?_, h2⟩, ?_⟩
  · intro q hq
    obtain ⟨j, hj⟩ := List.mem_iff_getElem?.1 hq
    rw [List.getElem?_drop] at hj
    cases hb : Op.bytesLess k q.1
    · have := less_total _ _ (h.high (i + j) q (by omega) hj) hb
      exact absurd (by rw [← this]; exact List.mem_of_getElem? hj) (hm q.2)
    · rfl
  · intro p hp q hq
    rcases List.mem_cons.1 hq with rfl | hq
    · obtain ⟨j, hj⟩ := List.mem_iff_getElem?.1 hp
      rw [List.getElem?_take] at hj
      split at hj
      · exact h.low j p (by assumption) hj
      · cases hj
    · exact h3 p hp q hq
/-- Two sorted lists with the same pairs are the same. -/
theorem srt_ext : ∀ {ps qs : List Pr}, Srt ps → Srt qs → (∀ p, p ∈ ps ↔ p ∈ qs) → ps = qs
  | [], [], _, _, _ => rfl
  | [], q :: _, _, _, h => absurd ((h q).2 (List.mem_cons_self ..)) (by simp)
  | p :: _, [], _, _, h => absurd ((h p).1 (List.mem_cons_self ..)) (by simp)
  | p :: ps, q :: qs, h1, h2, h => by
    obtain ⟨a1, a2⟩ := List.pairwise_cons.1 h1
    obtain ⟨b1, b2⟩ := List.pairwise_cons.1 h2
    have e : p = q := by
      rcases List.mem_cons.1 ((h p).1 (List.mem_cons_self ..)) with e | e
      · exact e
      · rcases List.mem_cons.1 ((h q).2 (List.mem_cons_self ..)) with f | f
        · exact f.symm
        · have g1 := b1 p e
          have g2 := a1 q f
          rw [less_asymm _ _ g1] at g2
          cases g2
    subst e
    rw [srt_ext a2 b2 (fun r => ?_)]
    constructor
    · intro hr
      rcases List.mem_cons.1 ((h r).1 (List.mem_cons_of_mem _ hr)) with e | e
      · subst e
        have := a1 r hr
        rw [less_irrefl] at this; cases this
      · exact e
    · intro hr
      rcases List.mem_cons.1 ((h r).2 (List.mem_cons_of_mem _ hr)) with e | e
      · subst e
        have := b1 r hr
        rw [less_irrefl] at this; cases this
      · exact e
theorem srt_nil : Srt [] := List.Pairwise.nil
end Go.Proofs.YtjcimajkjnjdpaaDoor
