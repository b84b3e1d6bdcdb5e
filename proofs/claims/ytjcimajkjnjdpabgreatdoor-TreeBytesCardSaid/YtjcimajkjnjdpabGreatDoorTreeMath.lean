/- DERIVED. What Make answers, as a plain function on lists of files. No program in sight. -/
import Derived.Test.YtjcimajkjnjdpabGreatDoorMSort
import Derived.Test.YtjcimajkjnjdpabGreatDoorMPath
namespace Go.Proofs.YtjcimajkjnjdpabGreatDoor
set_option linter.unusedVariables false

def firstBad : List Pr → Option Int
  | [] => none
  | p :: r => if goodB p.1 = false then some 10 else if 2048 < p.2.length then some 3 else firstBad r
def aheadB (p q : List UInt8) : Bool := decide (q.take (p.length + 1) = p ++ [47])
def clashB (ps : List Pr) : Bool := ps.any fun f => ps.any fun g => aheadB f.1 g.1
def twiceB (ps : List Pr) : Bool := !decide ((ps.map Prod.fst).Nodup)
def insT (p : Pr) (ts : List Pr) : List Pr := ts.filter (fun g => Op.bytesLess g.1 p.1) ++ p :: ts.filter (fun g => Op.bytesLess p.1 g.1)
def sortT (ps : List Pr) : List Pr := ps.foldl (fun t p => insT p t) []
def makeT (ps : List Pr) : Int × List Pr :=
  if 32 < ps.length then (13, []) else match firstBad ps with
  | some e => (e, [])
  | none => if twiceB ps = true then (11, []) else if clashB ps = true then (12, []) else (0, sortT ps)
theorem firstBad_none : ∀ {ps : List Pr}, firstBad ps = none ↔ ∀ p ∈ ps, goodB p.1 = true ∧ p.2.length ≤ 2048
  | [] => by simp [firstBad]
  | p :: r => by
    have ih := @firstBad_none r
    unfold firstBad
    by_cases h1 : goodB p.1 = false
    · rw [if_pos h1]
      constructor
      · intro h; cases h
      · intro h; have := (h p (by simp)).1; rw [h1] at this; cases this
    · rw [if_neg h1]
      by_cases h2 : 2048 < p.2.length
      · rw [if_pos h2]
        constructor
        · intro h; cases h
        · intro h; have := (h p (by simp)).2; omega
      · rw [if_neg h2, ih]
        simp only [List.mem_cons, forall_eq_or_imp]
        constructor
        · exact fun h => ⟨⟨by simpa using h1, by omega⟩, h⟩
        · exact fun h => h.2
theorem firstBad_take {ps : List Pr} {k : Nat} {p : Pr} (h : firstBad (ps.take k) = none) (hp : ps[k]? = some p) (h1 : goodB p.1 = true) (h2 : p.2.length ≤ 2048) : firstBad (ps.take (k + 1)) = none := by
  rw [firstBad_none] at h ⊢
  intro q hq
  rw [List.take_add_one, hp] at hq
  rcases List.mem_append.1 hq with hq | hq
  · exact h q hq
  · simp at hq; subst hq; exact ⟨h1, h2⟩
theorem firstBad_at : ∀ {ps : List Pr} {k : Nat} {p : Pr}, firstBad (ps.take k) = none → ps[k]? = some p → firstBad ps = if goodB p.1 = false then some 10 else if 2048 < p.2.length then some 3 else firstBad (ps.drop (k + 1))
  | [], k, p, _, hp => by cases hp
  | q :: r, 0, p, _, hp => by
    obtain rfl := Option.some.inj hp
    rfl
  | q :: r, k + 1, p, h, hp => by
    rw [List.take_succ_cons] at h
    have hq := (firstBad_none.1 h) q (by simp)
    have hr : firstBad (r.take k) = none := firstBad_none.2 fun x hx => (firstBad_none.1 h) x (by simp [hx])
    have := firstBad_at (ps := r) hr (by simpa using hp)
    conv => lhs; unfold firstBad
    rw [if_neg (by rw [hq.1]; simp), if_neg (by omega), this, List.drop_succ_cons]
theorem mem_insT {p q : Pr} {ts : List Pr} (h : ∀ g ∈ ts, g.1 ≠ p.1) : q ∈ insT p ts ↔ q = p ∨ q ∈ ts := by
  unfold insT
  simp only [List.mem_append, List.mem_cons, List.mem_filter]
  constructor
  · rintro (⟨h, _⟩ | h | ⟨h, _⟩)
    · exact .inr h
    · exact .inl h
    · exact .inr h
  · rintro (rfl | hq)
    · exact .inr (.inl rfl)
    · cases hc : Op.bytesLess q.1 p.1
      · cases hd : Op.bytesLess p.1 q.1
        · exact absurd (less_total _ _ hc hd) (h q hq)
        · exact .inr (.inr ⟨hq, rfl⟩)
      · exact .inl ⟨hq, rfl⟩
theorem srt_insT {p : Pr} {ts : List Pr} (h : Srt ts) : Srt (insT p ts) := by
  unfold insT Srt
  rw [List.pairwise_append, List.pairwise_cons]
  refine ⟨List.Pairwise.filter _ h, ⟨fun q hq => (List.mem_filter.1 hq).2, List.Pairwise.filter _ h⟩, fun a ha b hb => ?_⟩
  have h1 := (List.mem_filter.1 ha).2
  rcases List.mem_cons.1 hb with rfl | hb
  · exact h1
  · exact less_trans _ _ _ h1 (List.mem_filter.1 hb).2
theorem length_insT {p : Pr} : ∀ {ts : List Pr}, (∀ g ∈ ts, g.1 ≠ p.1) → (insT p ts).length = ts.length + 1
  | [], _ => rfl
  | g :: ts, h => by
    have ih := @length_insT p ts (fun g hg => h g (by simp [hg]))
    unfold insT at ih ⊢
    have hg := h g (by simp)
    rw [List.filter_cons, List.filter_cons]
    cases hc : Op.bytesLess g.1 p.1
    · cases hd : Op.bytesLess p.1 g.1
      · exact absurd (less_total _ _ hc hd) hg
      · simp only [List.length_append, List.length_cons] at ih ⊢
        simp
        omega
    · have hd := less_asymm _ _ hc
      rw [hd]
      simp only [List.length_append, List.length_cons] at ih ⊢
      simp
      omega
theorem sortT_snoc (ps : List Pr) (p : Pr) : sortT (ps ++ [p]) = insT p (sortT ps) := by unfold sortT; rw [List.foldl_append]; rfl
theorem nodup_snoc {ps : List Pr} {p : Pr} : ((ps ++ [p]).map Prod.fst).Nodup ↔ (ps.map Prod.fst).Nodup ∧ ∀ g ∈ ps, g.1 ≠ p.1 := by
  rw [List.map_append, List.nodup_append]
  constructor
  · rintro ⟨h1, _, h3⟩
    exact ⟨h1, fun g hg => h3 g.1 (List.mem_map_of_mem hg) p.1 (by simp)⟩
  · rintro ⟨h1, h2⟩
    refine ⟨h1, by simp, fun a ha b hb => ?_⟩
    obtain ⟨g, hg, rfl⟩ := List.mem_map.1 ha
    simp at hb
    subst hb
    exact h2 g hg
theorem snoc_ind {α : Type} {P : List α → Prop} (h0 : P []) (h1 : ∀ l a, P l → P (l ++ [a])) (l : List α) : P l := by
  have h : ∀ m : List α, P m.reverse := by
    intro m
    induction m with
    | nil => exact h0
    | cons a m ih => rw [List.reverse_cons]; exact h1 _ _ ih
  have := h l.reverse
  rwa [List.reverse_reverse] at this
theorem sortT_is (ps : List Pr) : (ps.map Prod.fst).Nodup → Srt (sortT ps) ∧ (∀ q, q ∈ sortT ps ↔ q ∈ ps) ∧ (sortT ps).length = ps.length := by
  induction ps using snoc_ind with
  | h0 => exact fun _ => ⟨srt_nil, fun q => Iff.rfl, rfl⟩
  | h1 ps p ih =>
    intro h
    obtain ⟨h1, h2⟩ := nodup_snoc.1 h
    obtain ⟨i1, i2, i3⟩ := ih h1
    have h2' : ∀ g ∈ sortT ps, g.1 ≠ p.1 := fun g hg => h2 g ((i2 g).1 hg)
    rw [sortT_snoc]
    refine ⟨srt_insT i1, fun q => ?_, ?_⟩
    · rw [mem_insT h2', i2, List.mem_append, List.mem_singleton]
      exact Or.comm
    · rw [length_insT h2', i3]; simp
theorem sortT_eq {ps qs : List Pr} (h : (ps.map Prod.fst).Nodup) (hs : Srt qs) (hm : ∀ q, q ∈ qs ↔ q ∈ ps) : sortT ps = qs :=
  srt_ext (sortT_is ps h).1 hs (fun p => ((sortT_is ps h).2.1 p).trans (hm p).symm)
theorem Srt.nodup {ps : List Pr} (h : Srt ps) : (ps.map Prod.fst).Nodup := by
  rw [List.Nodup, List.pairwise_map]
  exact h.imp fun h => less_ne h
/-- Neighbours that are unlike, in a list that stands in order: it rises. -/
theorem srt_of_next {qs : List Pr} (hs : SrtOn qs 0 qs.length) (hn : ∀ i p q, qs[i]? = some p → qs[i + 1]? = some q → p.1 ≠ q.1) : Srt qs := by
  unfold Srt
  rw [List.pairwise_iff_getElem]
  intro i j hi hj hij
  have hle : leF qs[i] qs[j] := hs i j _ _ (Nat.zero_le _) hij hj (List.getElem?_eq_getElem hi) (List.getElem?_eq_getElem hj)
  cases hc : Op.bytesLess qs[i].1 qs[j].1
  · exfalso
    have e := less_total _ _ hc hle
    have h1 : leF qs[i] (qs[i + 1]'(by omega)) := hs i (i + 1) _ _ (Nat.zero_le _) (by omega) (by omega) (List.getElem?_eq_getElem hi) (List.getElem?_eq_getElem (by omega))
    have h2 : leF (qs[i + 1]'(by omega)) qs[j] := by
      by_cases e : i + 1 = j
      · subst e; exact leF.refl _
      · exact hs (i + 1) j _ _ (Nat.zero_le _) (by omega) hj (List.getElem?_eq_getElem (by omega)) (List.getElem?_eq_getElem hj)
    unfold leF at h1 h2
    rw [← e] at h2
    exact hn i _ _ (List.getElem?_eq_getElem hi) (List.getElem?_eq_getElem (by omega)) (less_total _ _ h2 h1)
  · rfl
theorem twice_perm {qs ps : List Pr} (h : qs.Perm ps) : twiceB qs = twiceB ps := by
  unfold twiceB
  rw [decide_eq_decide.2 ((h.map Prod.fst).nodup_iff)]
theorem clash_mem {qs ps : List Pr} (h : ∀ q, q ∈ qs ↔ q ∈ ps) : clashB qs = clashB ps := by
  unfold clashB
  rw [Bool.eq_iff_iff]
  simp only [List.any_eq_true]
  constructor
  · rintro ⟨f, hf, g, hg, e⟩; exact ⟨f, (h f).1 hf, g, (h g).1 hg, e⟩
  · rintro ⟨f, hf, g, hg, e⟩; exact ⟨f, (h f).2 hf, g, (h g).2 hg, e⟩
theorem good_ne {p : List UInt8} (h : goodB p = true) : p ≠ [] := by
  intro e
  subst e
  simp [goodB, pieces, nameB] at h
theorem under_ahead {p q : List UInt8} (hp : goodB p = true) (hq : goodB q = true) : (underP p q).2 = aheadB p q := by
  unfold underP aheadB placeB
  rw [hp, hq]
  simp only [Bool.or_true, Bool.and_self, if_true, if_neg (good_ne hp)]
  split <;> rename_i h <;> simp [h]
theorem makeT_many {ps : List Pr} (h : 32 < ps.length) : makeT ps = (13, []) := by unfold makeT; rw [if_pos h]
theorem makeT_bad {ps : List Pr} {e : Int} (h : ps.length ≤ 32) (hb : firstBad ps = some e) : makeT ps = (e, []) := by unfold makeT; rw [if_neg (by omega), hb]
theorem makeT_twice {ps : List Pr} (h : ps.length ≤ 32) (hb : firstBad ps = none) (ht : twiceB ps = true) : makeT ps = (11, []) := by unfold makeT; rw [if_neg (by omega), hb]; simp only; rw [if_pos ht]
theorem makeT_clash {ps : List Pr} (h : ps.length ≤ 32) (hb : firstBad ps = none) (ht : twiceB ps = false) (hc : clashB ps = true) : makeT ps = (12, []) := by unfold makeT; rw [if_neg (by omega), hb]; simp only; rw [ht, hc]; simp
theorem makeT_ok {ps : List Pr} (h : ps.length ≤ 32) (hb : firstBad ps = none) (ht : twiceB ps = false) (hc : clashB ps = false) : makeT ps = (0, sortT ps) := by unfold makeT; rw [if_neg (by omega), hb]; simp only; rw [ht, hc]; simp
theorem twice_false {ps : List Pr} : twiceB ps = false ↔ (ps.map Prod.fst).Nodup := by unfold twiceB; simp
theorem firstBad_perm {qs ps : List Pr} (h : ∀ q, q ∈ qs ↔ q ∈ ps) (hb : firstBad ps = none) : firstBad qs = none := firstBad_none.2 fun q hq => firstBad_none.1 hb q ((h q).1 hq)
end Go.Proofs.YtjcimajkjnjdpabGreatDoor
