/- DERIVED. The merge in place: its plain law. No program in sight. -/
import Derived.Test.YtjcimajkjnjdpaaDoorSortRot
namespace Go.Proofs.YtjcimajkjnjdpaaDoor
open Go.RowKit
set_option linter.unusedVariables false

theorem part_split {α : Type} (ps : List α) (a b : Nat) (hab : a ≤ b) : ps = ps.take a ++ ((ps.drop a).take (b - a) ++ ps.drop b) := by
  have h : ps.drop b = (ps.drop a).drop (b - a) := by rw [List.drop_drop]; congr 1; omega
  rw [h, List.take_append_drop, List.take_append_drop]
theorem part_at {α : Type} (ps : List α) (a b k : Nat) : ((ps.drop a).take (b - a))[k]? = if k < b - a then ps[a + k]? else none := by
  rw [List.getElem?_take]
  split
  · rw [List.getElem?_drop]
  · rfl
theorem PermOn.part {qs ps : List Pr} {a b : Nat} (h : PermOn qs ps a b) (hab : a ≤ b) : ((qs.drop a).take (b - a)).Perm ((ps.drop a).take (b - a)) := by
  have h1 := h.1
  rw [part_split qs a b hab, part_split ps a b hab] at h1
  have e1 : qs.take a = ps.take a := by
    apply List.ext_getElem?
    intro k
    rw [List.getElem?_take, List.getElem?_take]
    split
    · exact h.2 k (.inl (by assumption))
    · rfl
  have e2 : qs.drop b = ps.drop b := by
    apply List.ext_getElem?
    intro k
    rw [List.getElem?_drop, List.getElem?_drop]
    exact h.2 _ (.inr (by omega))
  rw [e1, e2] at h1
  exact (List.perm_append_right_iff _).1 ((List.perm_append_left_iff _).1 h1)
theorem PermOn.mem {qs ps : List Pr} {a b i : Nat} {p : Pr} (h : PermOn qs ps a b) (h1 : a ≤ i) (h2 : i < b) (hp : qs[i]? = some p) : ∃ j, a ≤ j ∧ j < b ∧ ps[j]? = some p := by
  have hm := h.part (by omega)
  have : p ∈ (qs.drop a).take (b - a) := by
    apply List.mem_of_getElem? (i := i - a)
    rw [part_at, if_pos (by omega), show a + (i - a) = i by omega]
    exact hp
  have := hm.mem_iff.1 this
  obtain ⟨j, hj⟩ := List.getElem?_of_mem this
  rw [part_at] at hj
  split at hj
  · exact ⟨a + j, by omega, by omega, hj⟩
  · cases hj
theorem PermOn.length {qs ps : List Pr} {a b : Nat} (h : PermOn qs ps a b) : qs.length = ps.length := h.1.length_eq
/-- Two parts that stand in order, one no later than the other, each put in order by itself. -/
theorem srt_halves {qs rs ts : List Pr} {a m b : Nat} (hx : ∀ i j p q, a ≤ i → i < m → m ≤ j → j < b → qs[i]? = some p → qs[j]? = some q → leF p q)
    (h1 : PermOn rs qs a m) (s1 : SrtOn rs a m) (h2 : PermOn ts rs m b) (s2 : SrtOn ts m b) : SrtOn ts a b := by
  intro i j p q hi hij hj hp hq
  by_cases c1 : j < m
  · rw [h2.2 i (.inl (by omega))] at hp
    rw [h2.2 j (.inl (by omega))] at hq
    exact s1 i j p q hi hij c1 hp hq
  · by_cases c2 : m ≤ i
    · exact s2 i j p q c2 hij hj hp hq
    · rw [h2.2 i (.inl (by omega))] at hp
      obtain ⟨i', a1, a2, hp'⟩ := h1.mem hi (by omega) hp
      obtain ⟨j', b1, b2, hq'⟩ := h2.mem (by omega) hj hq
      rw [h1.2 j' (.inr b1)] at hq'
      exact hx i' j' p q a1 a2 b1 b2 hp' hq'
def leAt (ps : List Pr) (i j : Nat) : Prop := ∀ p q, ps[i]? = some p → ps[j]? = some q → leF p q
theorem leAt.of {ps : List Pr} {i j : Nat} {p q : Pr} (hp : ps[i]? = some p) (hq : ps[j]? = some q) (h : leF p q) : leAt ps i j := by
  intro x y hx hy
  rw [hp] at hx; rw [hq] at hy
  obtain rfl := Option.some.inj hx
  obtain rfl := Option.some.inj hy
  exact h
theorem SrtOn.le {ps : List Pr} {a b i j : Nat} (h : SrtOn ps a b) (h1 : a ≤ i) (h2 : i ≤ j) (h3 : j < b) : leAt ps i j := by
  intro p q hp hq
  by_cases e : i = j
  · subst e; rw [hp] at hq; obtain rfl := Option.some.inj hq; exact leF.refl _
  · exact h i j p q h1 (by omega) h3 hp hq
theorem leAt.trans {ps : List Pr} {i j k : Nat} (h : leAt ps i j) (h2 : leAt ps j k) (hj : j < ps.length) : leAt ps i k := by
  intro p q hp hq
  obtain ⟨r, hr⟩ : ∃ r, ps[j]? = some r := ⟨_, List.getElem?_eq_getElem hj⟩
  exact (h p r hp hr).trans (h2 r q hr hq)
theorem RotR.permOn {qs ps : List Pr} {s m e : Nat} (h : RotR qs ps s m e) (h1 : s ≤ m) (h2 : m ≤ e) : PermOn qs ps s e := ⟨h.1, fun k hk => by
  rw [h.2 k]; unfold rotI; rw [if_neg (by omega), if_neg (by omega)]⟩
theorem RotR.none {ps : List Pr} {s m e : Nat} (h1 : s ≤ m) (h2 : m ≤ e) (h : s = m ∨ m = e) : RotR ps ps s m e := ⟨List.Perm.refl _, fun k => by
  have : rotI s m e k = k := by unfold rotI; repeat' split
                                all_goals omega
  rw [this]⟩
/-- What the turn of a merge leaves: four parts in order, the first two no later than the last two. -/
theorem sym_turn {qs ps : List Pr} {a m b mid s e : Nat} (hq : RotR qs ps s m e) (h1 : SrtOn ps a m) (h2 : SrtOn ps m b) (hb : b ≤ ps.length)
    (ha : a ≤ s) (hsm : s ≤ m) (hme : m ≤ e) (heb : e ≤ b) (hmid : s + e = mid + m) (ham : a ≤ mid) (hmb : mid ≤ b)
    (hlo : s = a ∨ e = b ∨ leAt ps (s - 1) e) (hhi : s = m ∨ e = m ∨ leAt ps (e - 1) s) :
    PermOn qs ps a b ∧ SrtOn qs a s ∧ SrtOn qs s mid ∧ SrtOn qs mid e ∧ SrtOn qs e b ∧ ∀ i j p q, a ≤ i → i < mid → mid ≤ j → j < b → qs[i]? = some p → qs[j]? = some q → leF p q := by
  refine ⟨(hq.permOn hsm hme).wide ha heb, ?_, ?_, ?_, ?_, ?_⟩
  · intro i j p q hi hij hj hp hj'
    rw [hq.2, show rotI s m e i = i by unfold rotI; rw [if_neg (by omega), if_neg (by omega)]] at hp
    rw [hq.2, show rotI s m e j = j by unfold rotI; rw [if_neg (by omega), if_neg (by omega)]] at hj'
    exact h1 i j p q hi hij (by omega) hp hj'
  · intro i j p q hi hij hj hp hj'
    rw [hq.2, show rotI s m e i = i - s + m by unfold rotI; rw [if_pos (by omega)]] at hp
    rw [hq.2, show rotI s m e j = j - s + m by unfold rotI; rw [if_pos (by omega)]] at hj'
    exact h2 _ _ p q (by omega) (by omega) (by omega) hp hj'
  · intro i j p q hi hij hj hp hj'
    rw [hq.2, show rotI s m e i = i - (e - m) by unfold rotI; rw [if_neg (by omega), if_pos (by omega)]] at hp
    rw [hq.2, show rotI s m e j = j - (e - m) by unfold rotI; rw [if_neg (by omega), if_pos (by omega)]] at hj'
    exact h1 _ _ p q (by omega) (by omega) (by omega) hp hj'
  · intro i j p q hi hij hj hp hj'
    rw [hq.2, show rotI s m e i = i by unfold rotI; rw [if_neg (by omega), if_neg (by omega)]] at hp
    rw [hq.2, show rotI s m e j = j by unfold rotI; rw [if_neg (by omega), if_neg (by omega)]] at hj'
    exact h2 i j p q (by omega) hij (by omega) hp hj'
  · intro i j p q hi him hmj hj hp hj'
    rw [hq.2] at hp hj'
    by_cases c1 : i < s
    · rw [show rotI s m e i = i by unfold rotI; rw [if_neg (by omega), if_neg (by omega)]] at hp
      by_cases c2 : j < e
      · rw [show rotI s m e j = j - (e - m) by unfold rotI; rw [if_neg (by omega), if_pos (by omega)]] at hj'
        exact h1 _ _ p q (by omega) (by omega) (by omega) hp hj'
      · rw [show rotI s m e j = j by unfold rotI; rw [if_neg (by omega), if_neg (by omega)]] at hj'
        rcases hlo with h | h | h
        · omega
        · omega
        · exact ((h1.le (i := i) (j := s - 1) hi (by omega) (by omega)).trans (h.trans (h2.le (i := e) (j := j) hme (by omega) hj) (by omega)) (by omega)) p q hp hj'
    · rw [show rotI s m e i = i - s + m by unfold rotI; rw [if_pos (by omega)]] at hp
      by_cases c2 : j < e
      · rw [show rotI s m e j = j - (e - m) by unfold rotI; rw [if_neg (by omega), if_pos (by omega)]] at hj'
        rcases hhi with h | h | h
        · omega
        · omega
        · exact ((h2.le (i := i - s + m) (j := e - 1) (by omega) (by omega) (by omega)).trans (h.trans (h1.le (i := s) (j := j - (e - m)) ha (by omega) (by omega)) (by omega)) (by omega)) p q hp hj'
      · rw [show rotI s m e j = j by unfold rotI; rw [if_neg (by omega), if_neg (by omega)]] at hj'
        exact h2 _ _ p q (by omega) (by omega) hj hp hj'

/-- The file at a, moved up to k. -/
def MvU (qs ps : List Pr) (a k : Nat) : Prop := qs.Perm ps ∧ ∀ x, qs[x]? = if a ≤ x ∧ x < k then ps[x + 1]? else if x = k then ps[a]? else ps[x]?
theorem MvU.start (ps : List Pr) (a : Nat) : MvU ps ps a a := ⟨List.Perm.refl _, fun x => by
  rw [if_neg (by omega)]; split
  · rename_i h; rw [h]
  · rfl⟩
theorem MvU.step {qs ps : List Pr} {a k : Nat} {p q : Pr} (h : MvU qs ps a k) (hak : a ≤ k) (hp : qs[k]? = some p) (hq : qs[k + 1]? = some q) : MvU (swpF qs k (k + 1) p q) ps a (k + 1) := by
  refine ⟨(swpF_perm hp hq).trans h.1, fun x => ?_⟩
  have e1 := h.2 k
  have e2 := h.2 (k + 1)
  rw [if_neg (by omega), if_pos rfl, hp] at e1
  rw [if_neg (by omega), if_neg (by omega), hq] at e2
  rw [swpF_at hp hq]
  by_cases c1 : x = k + 1
  · subst c1; rw [if_pos rfl, if_neg (by omega), if_pos rfl]; exact e1
  · rw [if_neg c1]
    by_cases c2 : x = k
    · subst c2; rw [if_pos rfl, if_pos (by omega)]; exact e2
    · rw [if_neg c2, h.2 x]
      by_cases c3 : a ≤ x ∧ x < k
      · have d : a ≤ x ∧ x < k + 1 := by omega
        rw [if_pos c3, if_pos d]
      · have d : ¬ (a ≤ x ∧ x < k + 1) := by omega
        rw [if_neg c3, if_neg d, if_neg c2, if_neg c1]
theorem MvU.done {qs ps : List Pr} {a i b : Nat} (h : MvU qs ps a (i - 1)) (hs : SrtOn ps (a + 1) b) (hb : b ≤ ps.length) (hai : a + 1 ≤ i) (hib : i ≤ b) (hlo : i = a + 1 ∨ leAt ps (i - 1) a) (hhi : i = b ∨ leAt ps a i) : PermOn qs ps a b ∧ SrtOn qs a b := by
  refine ⟨⟨h.1, fun k hk => by rw [h.2, if_neg (by omega), if_neg (by omega)]⟩, fun x y p q hx hxy hy hp hq => ?_⟩
  rw [h.2] at hp hq
  by_cases c1 : x < i - 1
  · have d : a ≤ x ∧ x < i - 1 := by omega
    rw [if_pos d] at hp
    by_cases c2 : y < i - 1
    · have d : a ≤ y ∧ y < i - 1 := by omega
      rw [if_pos d] at hq
      exact hs _ _ p q (by omega) (by omega) (by omega) hp hq
    · rw [if_neg (by omega)] at hq
      have hla : leAt ps (x + 1) a := by
        rcases hlo with h | h
        · omega
        · exact (hs.le (i := x + 1) (j := i - 1) (by omega) (by omega) (by omega)).trans h (by omega)
      by_cases c3 : y = i - 1
      · rw [if_pos c3] at hq
        exact hla p q hp hq
      · rw [if_neg c3] at hq
        exact hs _ _ p q (by omega) (by omega) hy hp hq
  · rw [if_neg (by omega)] at hp
    rw [if_neg (by omega), if_neg (by omega)] at hq
    by_cases c3 : x = i - 1
    · rw [if_pos c3] at hp
      rcases hhi with h | h
      · omega
      · exact (h.trans (hs.le (i := i) (j := y) (by omega) (by omega) hy) (by omega)) p q hp hq
    · rw [if_neg c3] at hp
      exact hs _ _ p q (by omega) hxy hy hp hq
/-- The file at m, moved down to k. -/
def MvD (qs ps : List Pr) (m k : Nat) : Prop := qs.Perm ps ∧ ∀ x, qs[x]? = if k < x ∧ x ≤ m then ps[x - 1]? else if x = k then ps[m]? else ps[x]?
theorem MvD.start (ps : List Pr) (m : Nat) : MvD ps ps m m := ⟨List.Perm.refl _, fun x => by
  rw [if_neg (by omega)]; split
  · rename_i h; rw [h]
  · rfl⟩
theorem MvD.step {qs ps : List Pr} {m k : Nat} {p q : Pr} (h : MvD qs ps m k) (hk : 0 < k) (hkm : k ≤ m) (hp : qs[k]? = some p) (hq : qs[k - 1]? = some q) : MvD (swpF qs k (k - 1) p q) ps m (k - 1) := by
  refine ⟨(swpF_perm hp hq).trans h.1, fun x => ?_⟩
  have e1 := h.2 k
  have e2 := h.2 (k - 1)
  rw [if_neg (by omega), if_pos rfl, hp] at e1
  rw [if_neg (by omega), if_neg (by omega), hq] at e2
  rw [swpF_at hp hq]
  by_cases c1 : x = k - 1
  · subst c1; rw [if_pos rfl, if_neg (by omega), if_pos rfl]; exact e1
  · rw [if_neg c1]
    by_cases c2 : x = k
    · subst c2; rw [if_pos rfl, if_pos (by omega)]; exact e2
    · rw [if_neg c2, h.2 x]
      by_cases c3 : k < x ∧ x ≤ m
      · have d : k - 1 < x ∧ x ≤ m := by omega
        rw [if_pos c3, if_pos d]
      · have d : ¬ (k - 1 < x ∧ x ≤ m) := by omega
        rw [if_neg c3, if_neg d, if_neg c2, if_neg c1]
theorem MvD.done {qs ps : List Pr} {m i a : Nat} (h : MvD qs ps m i) (hs : SrtOn ps a m) (hb : m < ps.length) (hai : a ≤ i) (him : i ≤ m) (hlo : i = a ∨ leAt ps (i - 1) m) (hhi : i = m ∨ leAt ps m i) : PermOn qs ps a (m + 1) ∧ SrtOn qs a (m + 1) := by
  refine ⟨⟨h.1, fun k hk => by rw [h.2, if_neg (by omega), if_neg (by omega)]⟩, fun x y p q hx hxy hy hp hq => ?_⟩
  rw [h.2] at hp hq
  by_cases c1 : x < i
  · rw [if_neg (by omega), if_neg (by omega)] at hp
    by_cases c2 : y < i
    · rw [if_neg (by omega), if_neg (by omega)] at hq
      exact hs _ _ p q hx hxy (by omega) hp hq
    · by_cases c3 : y = i
      · rw [if_neg (by omega), if_pos c3] at hq
        rcases hlo with h | h
        · omega
        · exact ((hs.le (i := x) (j := i - 1) hx (by omega) (by omega)).trans h (by omega)) p q hp hq
      · have d : i < y ∧ y ≤ m := by omega
        rw [if_pos d] at hq
        exact hs _ _ p q hx (by omega) (by omega) hp hq
  · have d : i < y ∧ y ≤ m := by omega
    rw [if_pos d] at hq
    by_cases c3 : x = i
    · rw [if_neg (by omega), if_pos c3] at hp
      rcases hhi with h | h
      · omega
      · exact (h.trans (hs.le (i := i) (j := y - 1) hai (by omega) (by omega)) (by omega)) p q hp hq
    · have d2 : i < x ∧ x ≤ m := by omega
      rw [if_pos d2] at hp
      exact hs _ _ p q (by omega) (by omega) (by omega) hp hq
end Go.Proofs.YtjcimajkjnjdpaaDoor
