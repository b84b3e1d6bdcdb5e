/- DERIVED. Lists of texts by rising order, each once: sorted and compacted, or put in one by one. No program in sight. -/
import Derived.Test.YtjcimajkjnjdpaaGreatDoorTreeMath
import Derived.Lib.SlicesCompact
namespace Go.Proofs.YtjcimajkjnjdpaaGreatDoor
open Go
set_option linter.unusedVariables false

abbrev Tx := List UInt8
def SrtS (l : List Tx) : Prop := l.Pairwise (fun a b => Op.bytesLess a b = true)
theorem less_lt : ∀ a b : Tx, Op.bytesLess a b = true ↔ a < b
  | [], [] => by simp [Op.bytesLess]
  | [], _ :: _ => by simp [Op.bytesLess]
  | _ :: _, [] => by simp [Op.bytesLess]
  | x :: a, y :: b => by
    rw [List.cons_lt_cons_iff, ← less_lt a b]
    simp [Op.bytesLess]
theorem less_le (a b : Tx) : decide (a ≤ b) = !Op.bytesLess b a := by
  rw [Bool.eq_iff_iff]
  simp only [decide_eq_true_iff, Bool.not_eq_true']
  rw [← List.not_lt, ← less_lt]
  simp
theorem srtS_ext {l m : List Tx} (hl : SrtS l) (hm : SrtS m) (h : ∀ x, x ∈ l ↔ x ∈ m) : l = m := by
  have key : ∀ k : List Tx, SrtS k → Srt (k.map fun s => (s, ([] : Tx))) := fun k hk => by
    unfold Srt
    rw [List.pairwise_map]
    exact hk
  have e := srt_ext (key l hl) (key m hm) (fun p => by
    simp only [List.mem_map]
    constructor
    · rintro ⟨a, ha, rfl⟩; exact ⟨a, (h a).1 ha, rfl⟩
    · rintro ⟨a, ha, rfl⟩; exact ⟨a, (h a).2 ha, rfl⟩)
  have e2 := congrArg (List.map Prod.fst) e
  simpa [List.map_map, Function.comp_def] using e2
/-- One text more, unless it is there. -/
def withT (l : List Tx) (s : Tx) : List Tx := l.filter (fun x => Op.bytesLess x s) ++ s :: l.filter (fun x => Op.bytesLess s x)
theorem mem_withT {l : List Tx} {s x : Tx} : x ∈ withT l s ↔ x = s ∨ x ∈ l := by
  unfold withT
  simp only [List.mem_append, List.mem_filter, List.mem_cons]
  constructor
  · rintro (⟨h, _⟩ | h | ⟨h, _⟩)
    · exact .inr h
    · exact .inl h
    · exact .inr h
  · rintro (h | h)
    · exact .inr (.inl h)
    · cases h1 : Op.bytesLess x s
      · cases h2 : Op.bytesLess s x
        · exact .inr (.inl (less_total _ _ h1 h2))
        · exact .inr (.inr ⟨h, rfl⟩)
      · exact .inl ⟨h, rfl⟩
theorem srt_withT {l : List Tx} {s : Tx} (h : SrtS l) : SrtS (withT l s) := by
  unfold withT SrtS
  rw [List.pairwise_append]
  refine ⟨h.filter _, ?_, ?_⟩
  · rw [List.pairwise_cons]
    exact ⟨fun x hx => (List.mem_filter.1 hx).2, h.filter _⟩
  · intro a ha b hb
    have h1 := (List.mem_filter.1 ha).2
    rcases List.mem_cons.1 hb with rfl | hb
    · exact h1
    · exact less_trans _ _ _ h1 (List.mem_filter.1 hb).2
def allT (l : List Tx) : List Tx := l.foldl withT []
theorem allT_snoc (l : List Tx) (s : Tx) : allT (l ++ [s]) = withT (allT l) s := by unfold allT; rw [List.foldl_append]; rfl
theorem allT_is (l : List Tx) : SrtS (allT l) ∧ ∀ x, x ∈ allT l ↔ x ∈ l := by
  induction l using snoc_ind with
  | h0 => exact ⟨List.Pairwise.nil, fun x => Iff.rfl⟩
  | h1 l s ih =>
    rw [allT_snoc]
    refine ⟨srt_withT ih.1, fun x => ?_⟩
    rw [mem_withT, ih.2, List.mem_append, List.mem_singleton, Or.comm]
theorem withT_le (l : List Tx) (s : Tx) : (withT l s).length ≤ l.length + 1 := by
  have hf : ∀ xs : List Tx, (xs.filter fun x => Op.bytesLess x s).length + (xs.filter fun x => Op.bytesLess s x).length ≤ xs.length := by
    intro xs
    induction xs with
    | nil => exact Nat.le_refl _
    | cons y ys ihy =>
      rw [List.filter_cons, List.filter_cons]
      cases h1 : Op.bytesLess y s
      · cases h2 : Op.bytesLess s y <;> simp <;> omega
      · rw [less_asymm _ _ h1]; simp; omega
  unfold withT
  rw [List.length_append, List.length_cons]
  exact Nat.succ_le_succ (hf l)
theorem allT_le (l : List Tx) : (allT l).length ≤ l.length := by
  induction l using snoc_ind with
  | h0 => exact Nat.le_refl _
  | h1 l s ih =>
    rw [allT_snoc, List.length_append, List.length_singleton]
    have := withT_le (allT l) s
    omega
/-- What compaction leaves of a list that doesn't fall. -/
theorem compact_srt (zs : List Tx) (hs : zs.Pairwise (fun a b => Op.bytesLess b a = false)) : SrtS (Lib.compact zs) ∧ ∀ x, x ∈ Lib.compact zs ↔ x ∈ zs := by
  have key : ∀ m, m ≤ zs.length → SrtS (Lib.compactUpTo zs.toArray m) ∧ (∀ x, x ∈ Lib.compactUpTo zs.toArray m ↔ x ∈ zs.take m) := by
    intro m
    induction m with
    | zero => intro _; exact ⟨List.Pairwise.nil, fun x => by simp [Lib.compactUpTo]⟩
    | succ m ih =>
      intro hm
      obtain ⟨h1, h2⟩ := ih (by omega)
      have hg : zs.toArray[m]! = zs[m] := by simp [show m < zs.length by omega]
      rw [Lib.compactUpTo_succ, hg]
      have hmem : ∀ x, x ∈ zs.take (m + 1) ↔ x ∈ zs.take m ∨ x = zs[m] := fun x => by
        rw [List.take_succ_eq_append_getElem (by omega), List.mem_append, List.mem_singleton]
      cases hk : Lib.keeps zs.toArray m
      · rw [if_neg (by simp), List.append_nil]
        refine ⟨h1, fun x => ?_⟩
        rw [h2, hmem]
        constructor
        · exact .inl
        · rintro (h | rfl)
          · exact h
          · have hm0 : m ≠ 0 := fun e => by subst e; simp [Lib.keeps] at hk
            have he : zs.toArray[m]! = zs.toArray[m - 1]! := by
              simp only [Lib.keeps, decide_eq_false_iff_not] at hk
              exact Decidable.not_not.1 fun h => hk (.inr h)
            have hg2 : zs.toArray[m - 1]! = zs[m - 1]'(by omega) := by simp [show m - 1 < zs.length by omega]
            rw [hg, hg2] at he
            rw [he]
            exact List.mem_iff_getElem.2 ⟨m - 1, by rw [List.length_take]; omega, by simp⟩
      · rw [if_pos rfl]
        have hlt : ∀ x ∈ zs.take m, Op.bytesLess x zs[m] = true := by
          intro x hx
          obtain ⟨i, hi, rfl⟩ := List.mem_iff_getElem.1 hx
          rw [List.length_take] at hi
          rw [List.getElem_take]
          have hpw := List.pairwise_iff_getElem.1 hs
          have hle := hpw i m (by omega) (by omega) (by omega)
          cases hb : Op.bytesLess zs[i] zs[m]
          · exfalso
            have he := less_total _ _ hb hle
            have hm0 : 0 < m := by omega
            have hg2 : zs.toArray[m - 1]! = zs[m - 1]'(by omega) := by simp [show m - 1 < zs.length by omega]
            simp only [Lib.keeps, decide_eq_true_iff] at hk
            rcases hk with hk | hk
            · omega
            rw [hg, hg2] at hk
            have h3 : Op.bytesLess zs[m] (zs[m - 1]'(by omega)) = false := hpw (m - 1) m (by omega) (by omega) (by omega)
            have h4 : Op.bytesLess (zs[m - 1]'(by omega)) zs[i] = false := by
              rcases Nat.lt_or_ge i (m - 1) with h | h
              · exact hpw i (m - 1) (by omega) (by omega) h
              · have : i = m - 1 := by omega
                subst this
                exact less_irrefl _
            rw [he] at h4
            exact hk (less_total _ _ h3 h4)
          · rfl
        refine ⟨?_, fun x => ?_⟩
        · unfold SrtS
          rw [List.pairwise_append]
          refine ⟨h1, List.pairwise_singleton _ _, fun a ha b hb => ?_⟩
          obtain rfl := List.mem_singleton.1 hb
          exact hlt a ((h2 a).1 ha)
        · rw [List.mem_append, h2, hmem, List.mem_singleton]
  have := key zs.length (Nat.le_refl _)
  unfold Lib.compact
  rw [List.take_length] at this
  exact this
theorem sort_compact (l : List Tx) : Lib.compact (l.mergeSort fun x y => decide (x ≤ y)) = allT l := by
  have hf : (fun x y : Tx => decide (x ≤ y)) = fun x y => !Op.bytesLess y x := by
    funext x y; exact less_le x y
  rw [hf]
  have htr : ∀ a b c : Tx, (!Op.bytesLess b a) = true → (!Op.bytesLess c b) = true → (!Op.bytesLess c a) = true := by
    intro a b c h1 h2
    simp only [Bool.not_eq_true'] at h1 h2 ⊢
    cases hb : Op.bytesLess c a
    · rfl
    · cases hx : Op.bytesLess a b
      · have := less_total _ _ hx h1
        rw [← this, hb] at h2; cases h2
      · have := less_trans _ _ _ hb hx
        rw [this] at h2; cases h2
  have hto : ∀ a b : Tx, ((!Op.bytesLess b a) || !Op.bytesLess a b) = true := by
    intro a b
    cases h : Op.bytesLess b a
    · rfl
    · rw [less_asymm _ _ h]; rfl
  have hp := List.pairwise_mergeSort htr hto l
  have hperm := List.mergeSort_perm l (fun x y => !Op.bytesLess y x)
  obtain ⟨c1, c2⟩ := compact_srt _ (hp.imp (fun h => by simpa using h))
  obtain ⟨a1, a2⟩ := allT_is l
  exact srtS_ext c1 a1 (fun x => by rw [c2, a2]; exact hperm.mem_iff)
end Go.Proofs.YtjcimajkjnjdpaaGreatDoor
