/- DERIVED. Mounts as cells: parts of a list, put together anew. -/
import Derived.Test.YtknokfhmkhdieaaDoorViewAlive
namespace Go.Proofs.YtknokfhmkhdieaaDoor
open Go.RowKit
set_option linter.unusedVariables false

theorem infoMount : (Tryd.prog.info? 36).map (fun i => (i.zero, i.size, i.bytes)) = some (some (.agg #[.string ByteArray.empty, .slice none 0 0]), 2, 40) := by kernel_rfl
/-- Cells that read as mounts. -/
def MtCells (w : World) (vs : List Value) (ms : List Mt) : Prop := vs.length = ms.length * 2 ∧ ∀ i m, ms[i]? = some m → vs[i * 2]? = some (strV m.1) ∧ ∃ a c, vs[i * 2 + 1]? = some (.slice a m.2.length c) ∧ RdFl w a m.2 ∧ Sl a m.2.length c
theorem MtCells.below {w w' : World} {vs : List Value} {ms : List Mt} (h : MtCells w vs ms) (hb : Below w.heap.size w w') : MtCells w' vs ms := by
  refine ⟨h.1, fun i m hi => ?_⟩
  obtain ⟨h1, a, c, h2, h3, h4⟩ := h.2 i m hi
  exact ⟨h1, a, c, h2, h3.below hb, h4⟩
theorem RdMt.cells {w : World} {a : Option Addr} {ms : List Mt} (h : RdMt w a ms) : ∃ vs, MtCells w vs ms ∧ (∀ u ∈ vs, u.oneCell' = true) ∧ ∀ j u, vs[j]? = some u → ∃ b o, a = some ⟨b, o, none⟩ ∧ w.cell? ⟨b, o + j, none⟩ = some u := by
  by_cases hne : ms = []
  · subst hne
    exact ⟨[], ⟨rfl, (fun i m hi => by cases hi)⟩, (fun u hu => by cases hu), (fun j u hj => by cases hj)⟩
  · obtain ⟨b, o, rfl, hb, hc⟩ := h hne
    have key : ∀ i, i < ms.length → ∃ p : Value × Value, ∀ m, ms[i]? = some m → p.1 = strV m.1 ∧ w.cell? ⟨b, o + i * 2, none⟩ = some p.1 ∧ w.cell? ⟨b, o + i * 2 + 1, none⟩ = some p.2 ∧ ∃ a c, p.2 = .slice a m.2.length c ∧ RdFl w a m.2 ∧ Sl a m.2.length c := by
      intro i hi
      obtain ⟨h1, a, c, h2, h3, h4⟩ := hc i _ (List.getElem?_eq_getElem hi)
      refine ⟨(strV ms[i].1, .slice a ms[i].2.length c), fun m hm => ?_⟩
      rw [List.getElem?_eq_getElem hi] at hm
      obtain rfl := Option.some.inj hm
      exact ⟨rfl, h1, h2, a, c, rfl, h3, h4⟩
    obtain ⟨f, hf⟩ := Go.Deep.choose_lt (α := Value × Value) key
    have hlen : ∀ n, ((List.range n).flatMap (fun i => [(f i).1, (f i).2])).length = n * 2 := by
      intro n
      induction n with
      | zero => rfl
      | succ n ih => rw [List.range_succ, List.flatMap_append, List.length_append, ih]; simp; omega
    have hat : ∀ n i, i < n → ((List.range n).flatMap (fun i => [(f i).1, (f i).2]))[i * 2]? = some (f i).1 ∧ ((List.range n).flatMap (fun i => [(f i).1, (f i).2]))[i * 2 + 1]? = some (f i).2 := by
      intro n
      induction n with
      | zero => intro i hi; omega
      | succ n ih =>
        intro i hi
        rw [List.range_succ, List.flatMap_append]
        by_cases hn : i < n
        · have hl := hlen n
          rw [List.getElem?_append_left (by omega), List.getElem?_append_left (by omega)]
          exact ih i hn
        · obtain rfl : i = n := by omega
          have hl := hlen i
          rw [List.getElem?_append_right (by omega), List.getElem?_append_right (by omega), hl]
          simp
    have hall : ∀ j u, ((List.range ms.length).flatMap (fun i => [(f i).1, (f i).2]))[j]? = some u → ∃ i, i < ms.length ∧ ((j = i * 2 ∧ u = (f i).1) ∨ (j = i * 2 + 1 ∧ u = (f i).2)) := by
      intro j u hj
      have hjl := (List.getElem?_eq_some_iff.1 hj).1
      rw [hlen] at hjl
      have hi : j / 2 < ms.length := by omega
      obtain ⟨h1, h2⟩ := hat _ _ hi
      refine ⟨j / 2, hi, ?_⟩
      by_cases e : j = j / 2 * 2
      · rw [← e, hj] at h1
        exact .inl ⟨e, Option.some.inj h1⟩
      · have e : j = j / 2 * 2 + 1 := by omega
        rw [← e, hj] at h2
        exact .inr ⟨e, Option.some.inj h2⟩
    refine ⟨(List.range ms.length).flatMap (fun i => [(f i).1, (f i).2]), ⟨hlen _, fun i m hm => ?_⟩, fun u hu => ?_, fun j u hj => ⟨b, o, rfl, ?_⟩⟩
    · have hi := (List.getElem?_eq_some_iff.1 hm).1
      obtain ⟨g1, g2, g3, a, c, g4, g5, g6⟩ := hf i hi m hm
      obtain ⟨h1, h2⟩ := hat _ _ hi
      exact ⟨by rw [h1, g1], a, c, by rw [h2, g4], g5, g6⟩
    · obtain ⟨j, hj⟩ := List.getElem?_of_mem hu
      obtain ⟨i, hi, h | h⟩ := hall j u hj
      · obtain ⟨g1, _⟩ := hf i hi _ (List.getElem?_eq_getElem hi)
        rw [h.2, g1]; rfl
      · obtain ⟨_, _, _, a, c, g4, _⟩ := hf i hi _ (List.getElem?_eq_getElem hi)
        rw [h.2, g4]; rfl
    · obtain ⟨i, hi, ⟨rfl, rfl⟩ | ⟨rfl, rfl⟩⟩ := hall j u hj
      · exact (hf i hi _ (List.getElem?_eq_getElem hi)).2.1
      · exact (hf i hi _ (List.getElem?_eq_getElem hi)).2.2.1
theorem MtCells.part {w : World} {vs : List Value} {ms : List Mt} (h : MtCells w vs ms) (k : Nat) (hk : k ≤ ms.length) : MtCells w (vs.drop (k * 2) ++ vs.take (k * 2)) (ms.drop k ++ ms.take k) := by
  obtain ⟨hl, hc⟩ := h
  refine ⟨by simp; omega, fun i m hi => ?_⟩
  by_cases hlt : i < ms.length - k
  · rw [List.getElem?_append_left (by simpa using hlt), List.getElem?_drop] at hi
    obtain ⟨h1, a, c, h2, h3⟩ := hc _ m hi
    rw [List.getElem?_append_left (by simp; omega), List.getElem?_append_left (by simp; omega), List.getElem?_drop, List.getElem?_drop]
    exact ⟨by rw [show k * 2 + i * 2 = (k + i) * 2 by omega]; exact h1, a, c, by rw [show k * 2 + (i * 2 + 1) = (k + i) * 2 + 1 by omega]; exact h2, h3⟩
  · rw [List.getElem?_append_right (by simp; omega), List.length_drop, List.getElem?_take] at hi
    split at hi
    · rename_i hlt2
      obtain ⟨h1, a, c, h2, h3⟩ := hc _ m hi
      rw [List.getElem?_append_right (by simp; omega), List.getElem?_append_right (by simp; omega), List.length_drop, List.getElem?_take, List.getElem?_take, if_pos (by omega), if_pos (by omega)]
      exact ⟨by rw [show i * 2 - (vs.length - k * 2) = (i - (ms.length - k)) * 2 by omega]; exact h1, a, c, by rw [show i * 2 + 1 - (vs.length - k * 2) = (i - (ms.length - k)) * 2 + 1 by omega]; exact h2, h3⟩
    · cases hi
theorem MtCells.rd {w : World} {base n c : Nat} {a : Option Addr} {e : TypeId} {vs : List Value} {ms : List Mt} (h : MtCells w vs ms) (ho : w.ownsRow base e 2 (.slice a n c) n vs) (hn : n = ms.length) : RdMt w a ms := by
  intro hne
  have hpos := List.length_pos_iff.2 hne
  rcases ho.2 with ⟨e1, e2⟩ | ⟨g, cap, cur, e1, _, hg, _, _, _, ht⟩
  · omega
  · obtain ⟨rfl, _, _⟩ := Value.slice.inj e1
    have key : ∀ (j : Nat) (u : Value), vs[j]? = some u → w.cell? ⟨g, 0 + j, none⟩ = some u := by
      intro j u hj
      rw [Nat.zero_add, cell_of_heap hg]
      rw [← ht, List.getElem?_take] at hj
      split at hj
      · rw [← Array.getElem?_toList]; exact hj
      · cases hj
    refine ⟨g, 0, rfl, lt_of_heap hg, fun i m hi => ?_⟩
    obtain ⟨h1, a', c', h2, h3, h4⟩ := h.2 i m hi
    exact ⟨key _ _ h1, a', c', key _ _ h2, h3, h4⟩
/-- Parts of a slice, as sources. -/
theorem src_drop {w : World} {a : Option Addr} {vs : List Value} {n k : Nat} (hl : vs.length = n * 2) (h1 : ∀ u ∈ vs, u.oneCell' = true) (hc : ∀ j u, vs[j]? = some u → ∃ b o, a = some ⟨b, o, none⟩ ∧ w.cell? ⟨b, o + j, none⟩ = some u) (hk : k ≤ n) (x : Addr) (hx : k < n → ∀ b o, a = some ⟨b, o, none⟩ → x = ⟨b, o + k * 2, none⟩) (c : Nat) : Src Tryd.prog 2 22 (.slice (some x) (n - k) c) (n - k) (vs.drop (k * 2)) w := by
  refine Src.ofSlice w Tryd.underlying22 x (n - k) c _ (by rw [List.length_drop, hl]; omega) (fun j u hj => ?_) (fun u hu => h1 u (List.mem_of_mem_drop hu))
  rw [List.getElem?_drop] at hj
  have hjl := (List.getElem?_eq_some_iff.1 hj).1
  obtain ⟨b, o, rfl, hcell⟩ := hc _ u hj
  rw [hx (by omega) b o rfl, Addr.add_lit, Nat.add_assoc]
  exact hcell
theorem src_take {w : World} {a : Option Addr} {vs : List Value} {n k : Nat} (hl : vs.length = n * 2) (h1 : ∀ u ∈ vs, u.oneCell' = true) (hc : ∀ j u, vs[j]? = some u → ∃ b o, a = some ⟨b, o, none⟩ ∧ w.cell? ⟨b, o + j, none⟩ = some u) (hk : k ≤ n) (x : Addr) (ha : a = some x) (c : Nat) : Src Tryd.prog 2 22 (.slice (some x) k c) k (vs.take (k * 2)) w := by
  refine Src.ofSlice w Tryd.underlying22 x k c _ (by rw [List.length_take, hl]; omega) (fun j u hj => ?_) (fun u hu => h1 u (List.mem_of_mem_take hu))
  rw [List.getElem?_take] at hj
  split at hj
  · obtain ⟨b, o, e, hcell⟩ := hc _ u hj
    rw [ha] at e
    obtain rfl := Option.some.inj e
    rw [Addr.add_lit]
    exact hcell
  · cases hj
end Go.Proofs.YtknokfhmkhdieaaDoor
