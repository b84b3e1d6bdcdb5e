/- DERIVED. Two mounts in either order: plain law. -/
import Derived.Test.YtjcimajkjnjdpabGreatDoorTreeLaw
namespace Go.Proofs.YtjcimajkjnjdpabGreatDoor
set_option linter.unusedVariables false

theorem behind_is {d s : List UInt8} (h : d ≠ []) : putBehind d s = d ++ 47 :: s := by unfold putBehind; rw [if_neg h]
/-- 'stands under' for places that are paths: the place and a stroke stand ahead. -/
theorem under_true {d p : List UInt8} (hd : goodB d = true) (hp : goodB p = true) : (underP d p).2 = true ↔ p.take (d.length + 1) = d ++ [47] := by
  rw [under_ahead hd hp]
  unfold aheadB
  rw [decide_eq_true_iff]
theorem take_of_pre {a b p : List UInt8} (ha : a <+: p) (hb : b <+: p) (hl : a.length ≤ b.length) : a <+: b := by
  obtain ⟨x, rfl⟩ := ha
  obtain ⟨y, hy⟩ := hb
  have h : b.take a.length = a := by
    have h1 : (b ++ y).take a.length = (a ++ x).take a.length := by rw [hy]
    rw [List.take_append_of_le_length hl, List.take_left] at h1
    exact h1
  rw [← h]
  exact List.take_prefix _ _
/-- A path that stands under two places: one of them is the other, or stands under it. -/
theorem under_twoP {d e p : List UInt8} (hd : goodB d = true) (he : goodB e = true) (hp : goodB p = true) (h1 : (underP d p).2 = true) (h2 : (underP e p).2 = true) : d = e ∨ (underP d e).2 = true ∨ (underP e d).2 = true := by
  rw [under_true hd hp] at h1
  rw [under_true he hp] at h2
  have p1 : d ++ [47] <+: p := by rw [← h1]; exact List.take_prefix _ _
  have p2 : e ++ [47] <+: p := by rw [← h2]; exact List.take_prefix _ _
  have key : ∀ {a b : List UInt8}, goodB a = true → goodB b = true → a ++ [47] <+: p → b ++ [47] <+: p → a.length ≤ b.length → a = b ∨ (underP a b).2 = true := by
    intro a b ga gb qa qb hl
    rcases Nat.eq_or_lt_of_le hl with h | h
    · left
      have := take_of_pre qa qb (by simp; omega)
      obtain ⟨z, hz⟩ := this
      have hz0 : z = [] := by
        have := congrArg List.length hz
        simp at this
        exact List.eq_nil_of_length_eq_zero (by omega)
      subst hz0
      rw [List.append_nil] at hz
      exact List.append_cancel_right hz
    · right
      rw [under_true ga gb]
      have hb : b <+: p := (List.prefix_append b [47]).trans qb
      obtain ⟨z, hz⟩ := take_of_pre qa hb (by simp; omega)
      rw [← hz, show a.length + 1 = (a ++ [47]).length by simp, List.take_left]
  rcases Nat.le_total d.length e.length with hl | hl
  · rcases key hd he p1 p2 hl with rfl | h
    · exact .inl rfl
    · exact .inr (.inl h)
  · rcases key he hd p2 p1 hl with rfl | h
    · exact .inl rfl
    · exact .inr (.inr h)
theorem under_self {d s : List UInt8} (hd : goodB d = true) (hp : goodB (d ++ 47 :: s) = true) : underP d (d ++ 47 :: s) = (s, true) := by
  have ht : (d ++ 47 :: s).take (d.length + 1) = d ++ [47] := by
    rw [show d ++ 47 :: s = (d ++ [47]) ++ s by simp, show d.length + 1 = (d ++ [47]).length by simp, List.take_left]
  unfold underP placeB
  rw [hp, hd, if_pos (by simp), if_neg (good_ne hd), if_pos ht]
  congr 1
  rw [show d ++ 47 :: s = (d ++ [47]) ++ s by simp, show d.length + 1 = (d ++ [47]).length by simp, List.drop_left]
theorem mountT_parts {t s qs : List Pr} {d : List UInt8} (h : mountT t d s = (0, qs)) : goodT t = true ∧ goodT s = true ∧ placeB d = true ∧ s.all (fun p => goodB (putBehind d p.1)) = true ∧ makeT (t ++ s.map (behF d)) = (0, qs) := by
  unfold mountT at h
  split at h
  · rename_i h1
    split at h
    · rename_i h2; exact ⟨h1.1, h1.2, h2.1, h2.2, h⟩
    · cases (Prod.mk.inj h).1
  · cases (Prod.mk.inj h).1
theorem mountT_of {t s : List Pr} {d : List UInt8} (h1 : goodT t = true) (h2 : goodT s = true) (h3 : placeB d = true) (h4 : s.all (fun p => goodB (putBehind d p.1)) = true) : mountT t d s = makeT (t ++ s.map (behF d)) := by
  unfold mountT
  rw [if_pos ⟨h1, h2⟩, if_pos ⟨h3, h4⟩]
theorem place_good {p q : List UInt8} (hp : placeB p = true) (hq : placeB q = true) (hne : p ≠ q) (h : (underP p q).2 = false) (h' : (underP q p).2 = false) : goodB p = true ∧ goodB q = true := by
  have key : ∀ {p q : List UInt8}, placeB p = true → placeB q = true → p ≠ q → (underP p q).2 = false → goodB p = true := by
    intro p q hp hq hne h
    unfold placeB at hp hq
    cases p with
    | cons c r => simpa using hp
    | nil =>
      exfalso
      have hq' : goodB q = true := by
        cases q with
        | nil => exact absurd rfl hne
        | cons c r => simpa using hq
      unfold underP placeB at h
      rw [hq'] at h
      simp at h
  exact ⟨key hp hq hne h, key hq hp (Ne.symm hne) h'⟩
theorem sort_perm {L out : List Pr} (h : makeT L = (0, out)) : out.Perm L := by
  obtain ⟨h1, h2, h3, h4, h5⟩ := makeT_zero h
  obtain ⟨s1, s2, s3⟩ := sortT_is L (twice_false.1 h3)
  rw [h5] at s1 s2 s3
  have nd : ∀ {l : List Pr}, (l.map Prod.fst).Nodup → l.Nodup := fun h => (List.pairwise_map.1 h).imp (fun hne e => hne (congrArg Prod.fst e))
  exact (List.perm_ext_iff_of_nodup (nd s1.nodup) (nd (twice_false.1 h3))).2 s2
theorem mounts_same {a b x y : List Pr} {p q : List UInt8} (hx : mountT [] p a = (0, x)) (hy : mountT [] q b = (0, y)) (hne : p ≠ q) (hu : (underP p q).2 = false) (hu' : (underP q p).2 = false) :
    mountT x q b = mountT y p a ∧ ((mountT x q b).1 = 0 ∨ (mountT x q b).1 = 13) := by
  obtain ⟨_, ga, pp, aa, ma⟩ := mountT_parts hx
  obtain ⟨_, gb, pq, ab, mb⟩ := mountT_parts hy
  rw [List.nil_append] at ma mb
  obtain ⟨gp, gq⟩ := place_good pp pq hne hu hu'
  rw [mountT_of (makeT_good ma) gb pq ab, mountT_of (makeT_good mb) ga pp aa]
  generalize hA : a.map (behF p) = A at ma ⊢
  generalize hB : b.map (behF q) = B at mb ⊢
  have memA : ∀ f ∈ A, ∃ s, f.1 = p ++ 47 :: s := by
    intro f hf
    rw [← hA] at hf
    obtain ⟨z, _, rfl⟩ := List.mem_map.1 hf
    exact ⟨z.1, behind_is (good_ne gp)⟩
  have memB : ∀ f ∈ B, ∃ s, f.1 = q ++ 47 :: s := by
    intro f hf
    rw [← hB] at hf
    obtain ⟨z, _, rfl⟩ := List.mem_map.1 hf
    exact ⟨z.1, behind_is (good_ne gq)⟩
  obtain ⟨a1, a2, a3, a4, _⟩ := makeT_zero ma
  obtain ⟨b1, b2, b3, b4, _⟩ := makeT_zero mb
  have fgA : ∀ f ∈ A, goodB f.1 = true := fun f hf => (firstBad_none.1 a2 f hf).1
  have fgB : ∀ f ∈ B, goodB f.1 = true := fun f hf => (firstBad_none.1 b2 f hf).1
  have pa := sort_perm ma
  have pb := sort_perm mb
  have hp1 : (x ++ B).Perm (A ++ B) := pa.append_right B
  have hp2 : (y ++ A).Perm (A ++ B) := (pb.append_right A).trans List.perm_append_comm
  -- what stands under both places
  have far : ∀ z, goodB z = true → p ++ [47] <+: z → q ++ [47] <+: z → False := by
    intro z hz h1 h2
    have e1 : (underP p z).2 = true := by
      rw [under_true gp hz]
      obtain ⟨r, rfl⟩ := h1
      rw [show p.length + 1 = (p ++ [47]).length by simp, List.take_left]
    have e2 : (underP q z).2 = true := by
      rw [under_true gq hz]
      obtain ⟨r, rfl⟩ := h2
      rw [show q.length + 1 = (q ++ [47]).length by simp, List.take_left]
    rcases under_twoP gp gq hz e1 e2 with h | h | h
    · exact hne h
    · rw [hu] at h; cases h
    · rw [hu'] at h; cases h
  have pre : ∀ (d s : List UInt8), d ++ [47] <+: d ++ 47 :: s := fun d s => ⟨s, by simp⟩
  have fb : firstBad (A ++ B) = none := firstBad_none.2 fun f hf => by
    rcases List.mem_append.1 hf with h | h
    · exact firstBad_none.1 a2 f h
    · exact firstBad_none.1 b2 f h
  have tw : twiceB (A ++ B) = false := by
    rw [twice_false, List.map_append, List.nodup_append]
    refine ⟨twice_false.1 a3, twice_false.1 b3, fun u hu v hv e => ?_⟩
    subst e
    obtain ⟨f, hf, rfl⟩ := List.mem_map.1 hu
    obtain ⟨g, hg, e⟩ := List.mem_map.1 hv
    obtain ⟨s, hs⟩ := memA f hf
    obtain ⟨r, hr⟩ := memB g hg
    exact far f.1 (fgA f hf) (by rw [hs]; exact pre p s) (by rw [← e, hr]; exact pre q r)
  have ahd : ∀ {u v : List UInt8}, aheadB u v = true → u ++ [47] <+: v := by
    intro u v h
    unfold aheadB at h
    rw [decide_eq_true_iff] at h
    rw [← h]; exact List.take_prefix _ _
  have cl : clashB (A ++ B) = false := by
    cases hc : clashB (A ++ B)
    · rfl
    · exfalso
      unfold clashB at hc
      obtain ⟨f, hf, hg⟩ := List.any_eq_true.1 hc
      obtain ⟨g, hg, he⟩ := List.any_eq_true.1 hg
      have he := ahd he
      have none : ∀ {C : List Pr}, clashB C = false → f ∈ C → g ∈ C → f.1 ++ [47] <+: g.1 → False := by
        intro C hC h1 h2 ⟨r, hr⟩
        have : clashB C = true := by
          unfold clashB
          refine List.any_eq_true.2 ⟨f, h1, List.any_eq_true.2 ⟨g, h2, ?_⟩⟩
          unfold aheadB
          rw [decide_eq_true_iff, ← hr, show f.1.length + 1 = (f.1 ++ [47]).length by simp, List.take_left]
        rw [hC] at this; cases this
      rcases List.mem_append.1 hf with h1 | h1 <;> rcases List.mem_append.1 hg with h2 | h2
      · exact none a4 h1 h2 he
      · obtain ⟨s, hs⟩ := memA f h1
        obtain ⟨r, hr⟩ := memB g h2
        exact far g.1 (fgB g h2) (((hs ▸ pre p s : p ++ [47] <+: f.1).trans (List.prefix_append _ _)).trans he) (hr ▸ pre q r)
      · obtain ⟨s, hs⟩ := memB f h1
        obtain ⟨r, hr⟩ := memA g h2
        exact far g.1 (fgA g h2) (hr ▸ pre p r) (((hs ▸ pre q s : q ++ [47] <+: f.1).trans (List.prefix_append _ _)).trans he)
      · exact none b4 h1 h2 he
  have key : ∀ {l : List Pr}, l.Perm (A ++ B) → makeT l = makeT (A ++ B) ∧ ((makeT (A ++ B)).1 = 0 ∨ (makeT (A ++ B)).1 = 13) := by
    intro l hl
    by_cases hn : 32 < (A ++ B).length
    · rw [makeT_many hn, makeT_many (by rw [hl.length_eq]; exact hn)]
      exact ⟨rfl, .inr rfl⟩
    · have hok := makeT_ok (by omega) fb tw cl
      rw [hok, makeT_perm hok hl]
      exact ⟨rfl, .inl rfl⟩
  obtain ⟨k1, k2⟩ := key hp1
  obtain ⟨k3, _⟩ := key hp2
  rw [k1, k3]
  exact ⟨rfl, k2⟩
end Go.Proofs.YtjcimajkjnjdpabGreatDoor
