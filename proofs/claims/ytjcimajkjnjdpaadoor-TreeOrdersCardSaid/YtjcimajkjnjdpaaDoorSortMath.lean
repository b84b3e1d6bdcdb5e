/- DERIVED. Sorting in place: the order of files by path, swaps of neighbours, the insertion sort's rounds. No program in sight. -/
import Derived.Test.YtjcimajkjnjdpaaDoorOrd
import Derived.Lib.Bytealg
namespace Go.Proofs.YtjcimajkjnjdpaaDoor
open Go
set_option linter.unusedVariables false

theorem cmp_less : ∀ a b : List UInt8, decide (Lib.compareBytes a b < 0) = Op.bytesLess a b
  | [], [] => rfl
  | [], _ :: _ => rfl
  | _ :: _, [] => rfl
  | x :: a, y :: b => by
    have ih := cmp_less a b
    unfold Lib.compareBytes Op.bytesLess
    by_cases h1 : x < y
    · simp [h1]
    · by_cases h2 : y < x
      · have h3 : ¬ x = y := fun e => by subst e; exact absurd h2 h1
        simp [h1, h2, h3]
      · have h3 : x = y := by
          apply Decidable.byContradiction
          intro hne
          rcases UInt8.lt_or_lt_of_ne hne with h | h
          · exact h1 h
          · exact h2 h
        subst h3
        simp [h1, ih]
/-- p stands no later than q. -/
def leF (p q : Pr) : Prop := Op.bytesLess q.1 p.1 = false
theorem leF.refl (p : Pr) : leF p p := less_irrefl p.1
theorem leF.of_less {p q : Pr} (h : Op.bytesLess p.1 q.1 = true) : leF p q := less_asymm _ _ h
theorem leF.trans {p q r : Pr} (h : leF p q) (k : leF q r) : leF p r := by
  unfold leF at *
  cases hc : Op.bytesLess r.1 p.1
  · rfl
  · cases hd : Op.bytesLess q.1 r.1
    · have := less_total _ _ hd k
      rw [this, hc] at h; cases h
    · have := less_trans _ _ _ hd hc
      rw [this] at h; cases h
/-- A part of a list stands in order. -/
def SrtOn (ps : List Pr) (a b : Nat) : Prop := ∀ i j p q, a ≤ i → i < j → j < b → ps[i]? = some p → ps[j]? = some q → leF p q
/-- The same files, and the same ones outside a part. -/
def PermOn (qs ps : List Pr) (a b : Nat) : Prop := qs.Perm ps ∧ ∀ k, k < a ∨ b ≤ k → qs[k]? = ps[k]?
theorem PermOn.refl (ps : List Pr) (a b : Nat) : PermOn ps ps a b := ⟨List.Perm.refl _, fun _ _ => rfl⟩
theorem PermOn.trans {ps qs rs : List Pr} {a b : Nat} (h : PermOn rs qs a b) (k : PermOn qs ps a b) : PermOn rs ps a b := ⟨h.1.trans k.1, fun i hi => (h.2 i hi).trans (k.2 i hi)⟩
theorem PermOn.wide {ps qs : List Pr} {a b a' b' : Nat} (h : PermOn qs ps a b) (h1 : a' ≤ a) (h2 : b ≤ b') : PermOn qs ps a' b' := ⟨h.1, fun i hi => h.2 i (by omega)⟩
def swpF (ps : List Pr) (i j : Nat) (p q : Pr) : List Pr := (ps.set i q).set j p
theorem swpF_length (ps : List Pr) (i j : Nat) (p q : Pr) : (swpF ps i j p q).length = ps.length := by simp [swpF]
theorem swpF_perm {ps : List Pr} {i j : Nat} {p q : Pr} (hi : ps[i]? = some p) (hj : ps[j]? = some q) : (swpF ps i j p q).Perm ps := by
  obtain ⟨h1, rfl⟩ := List.getElem?_eq_some_iff.1 hi
  obtain ⟨h2, rfl⟩ := List.getElem?_eq_some_iff.1 hj
  exact List.set_set_perm h1 h2
theorem swpF_at {ps : List Pr} {i j : Nat} {p q : Pr} (hi : ps[i]? = some p) (hj : ps[j]? = some q) (k : Nat) : (swpF ps i j p q)[k]? = if k = j then some p else if k = i then some q else ps[k]? := by
  obtain ⟨h1, _⟩ := List.getElem?_eq_some_iff.1 hi
  obtain ⟨h2, _⟩ := List.getElem?_eq_some_iff.1 hj
  unfold swpF
  rw [List.getElem?_set]
  by_cases e : j = k
  · subst e; simp [h2]
  · rw [if_neg e, if_neg (fun h => e h.symm), List.getElem?_set]
    by_cases e2 : i = k
    · subst e2; simp [h1]
    · rw [if_neg e2, if_neg (fun h => e2 h.symm)]
theorem swpF_on {ps : List Pr} {i j a b : Nat} {p q : Pr} (hi : ps[i]? = some p) (hj : ps[j]? = some q) (h1 : a ≤ i) (h2 : i < b) (h3 : a ≤ j) (h4 : j < b) : PermOn (swpF ps i j p q) ps a b :=
  ⟨swpF_perm hi hj, fun k hk => by rw [swpF_at hi hj, if_neg (by omega), if_neg (by omega)]⟩
/-- In the insertion sort's inner loop: all but one stands in order, and that one stands ahead of what it was moved past. -/
def InsI (qs : List Pr) (a i j : Nat) : Prop :=
  (∀ x y p q, a ≤ x → x < y → y ≤ i → x ≠ j → y ≠ j → qs[x]? = some p → qs[y]? = some q → leF p q) ∧ (∀ y p q, j < y → y ≤ i → qs[j]? = some p → qs[y]? = some q → leF p q)
theorem InsI.start {qs : List Pr} {a i : Nat} (h : SrtOn qs a i) : InsI qs a i i :=
  ⟨fun x y p q h1 h2 h3 h4 h5 hx hy => h x y p q h1 h2 (by omega) hx hy, fun y p q h1 h2 => by omega⟩
theorem InsI.swap {qs : List Pr} {a i j : Nat} {p q : Pr} (h : InsI qs a i (j + 1)) (haj : a ≤ j) (hji : j + 1 ≤ i) (hp : qs[j + 1]? = some p) (hq : qs[j]? = some q) (hl : Op.bytesLess p.1 q.1 = true) : InsI (swpF qs (j + 1) j p q) a i j := by
  constructor
  · intro x y u v h1 h2 h3 h4 h5 hx hy
    rw [swpF_at hp hq] at hx hy
    rw [if_neg h4] at hx
    rw [if_neg h5] at hy
    by_cases e1 : x = j + 1
    · rw [if_pos e1] at hx
      obtain rfl := Option.some.inj hx
      rw [if_neg (by omega)] at hy
      exact h.1 j y q v haj (by omega) h3 (by omega) (by omega) hq hy
    · rw [if_neg e1] at hx
      by_cases e2 : y = j + 1
      · rw [if_pos e2] at hy
        obtain rfl := Option.some.inj hy
        exact h.1 x j u q h1 (by omega) (by omega) e1 (by omega) hx hq
      · rw [if_neg e2] at hy
        exact h.1 x y u v h1 h2 h3 e1 e2 hx hy
  · intro y u v h1 h2 hx hy
    rw [swpF_at hp hq] at hx hy
    rw [if_pos rfl] at hx
    obtain rfl := Option.some.inj hx
    rw [if_neg (by omega)] at hy
    by_cases e2 : y = j + 1
    · rw [if_pos e2] at hy
      obtain rfl := Option.some.inj hy
      exact leF.of_less hl
    · rw [if_neg e2] at hy
      exact h.2 y p v (by omega) h2 hp hy
theorem InsI.done {qs : List Pr} {a i j : Nat} (h : InsI qs a i j) (hj : j ≤ i) (hl : j = a ∨ ∃ k p q, j = k + 1 ∧ a ≤ k ∧ qs[k]? = some p ∧ qs[j]? = some q ∧ leF p q) : SrtOn qs a (i + 1) := by
  intro x y u v h1 h2 h3 hx hy
  by_cases e1 : x = j
  · subst e1; exact h.2 y u v h2 (by omega) hx hy
  · by_cases e2 : y = j
    · subst e2
      rcases hl with rfl | ⟨k, p, q, rfl, hk, hp, hq, hle⟩
      · omega
      · rw [hq] at hy
        obtain rfl := Option.some.inj hy
        by_cases e3 : x = k
        · subst e3
          rw [hp] at hx
          obtain rfl := Option.some.inj hx
          exact hle
        · exact (h.1 x k u p h1 (by omega) (by omega) (by omega) (by omega) hx hp).trans hle
    · exact h.1 x y u v h1 h2 (by omega) e1 e2 hx hy
end Go.Proofs.YtjcimajkjnjdpaaDoor
