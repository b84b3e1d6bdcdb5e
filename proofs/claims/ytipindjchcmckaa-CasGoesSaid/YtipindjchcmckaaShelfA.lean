/- DERIVED. The walks of package shelf over texts by texts: the order of keys, the search. -/
import Derived.Test.YtipindjchcmckaaWords
import Derived.Test.YtipindjchcmckaaRowN
import Derived.Test.YtipindjchcmckaaOrd
namespace Go.Proofs.Ytipindjchcmckaa
open Go.RowKit
set_option linter.unusedVariables false

def pairV (p : Pr) : List Value := [strV p.1, strV p.2]
def pairsV (ps : List Pr) : List Value := ps.flatMap pairV
theorem pairsV_length (ps : List Pr) : (pairsV ps).length = ps.length * 2 := by
  induction ps with
  | nil => rfl
  | cons p ps ih => simp only [pairsV, List.flatMap_cons, List.length_append, List.length_cons] at ih ⊢; simp only [pairV, List.length_cons, List.length_nil]; omega
theorem pairsV_one (ps : List Pr) : ∀ u ∈ pairsV ps, u.oneCell' = true := by
  intro u hu
  obtain ⟨p, _, hp⟩ := List.mem_flatMap.1 hu
  simp [pairV] at hp
  rcases hp with rfl | rfl <;> rfl
theorem pairsV_append (ps qs : List Pr) : pairsV (ps ++ qs) = pairsV ps ++ pairsV qs := by simp [pairsV]
theorem pairsV_take (ps : List Pr) (i : Nat) : pairsV (ps.take i) = (pairsV ps).take (i * 2) := by
  induction ps generalizing i with
  | nil => simp [pairsV]
  | cons p ps ih =>
    cases i with
    | zero => simp [pairsV]
    | succ i =>
      rw [Nat.add_mul]
      simp only [pairsV, List.take_succ_cons, List.flatMap_cons, pairV, List.cons_append, List.nil_append] at ih ⊢
      rw [ih i]
theorem pairsV_drop (ps : List Pr) (i : Nat) : pairsV (ps.drop i) = (pairsV ps).drop (i * 2) := by
  induction ps generalizing i with
  | nil => simp [pairsV]
  | cons p ps ih =>
    cases i with
    | zero => simp [pairsV]
    | succ i =>
      rw [Nat.add_mul]
      simp only [pairsV, List.drop_succ_cons, List.flatMap_cons, pairV, List.cons_append, List.nil_append] at ih ⊢
      rw [ih i]
theorem pairsV_at (ps : List Pr) (i : Nat) (p : Pr) (h : ps[i]? = some p) : (pairsV ps)[i * 2]? = some (strV p.1) ∧ (pairsV ps)[i * 2 + 1]? = some (strV p.2) := by
  have hd : (pairsV ps).drop (i * 2) = strV p.1 :: strV p.2 :: pairsV (ps.drop (i + 1)) := by
    rw [← pairsV_drop, List.drop_eq_getElem_cons (List.getElem?_eq_some_iff.1 h).1, (List.getElem?_eq_some_iff.1 h).2]
    rfl
  have h0 : ((pairsV ps).drop (i * 2))[0]? = some (strV p.1) := by rw [hd]; rfl
  have h1 : ((pairsV ps).drop (i * 2))[1]? = some (strV p.2) := by rw [hd]; rfl
  rw [List.getElem?_drop] at h0 h1
  exact ⟨h0, h1⟩
/-- A slice that reads as pairs. -/
def RdPairs (w : World) (a : Option Addr) (ps : List Pr) : Prop :=
  ps ≠ [] → ∃ b, a = some ⟨b, 0, none⟩ ∧ b < w.heap.size ∧ ∀ i p, ps[i]? = some p → w.cell? ⟨b, i * 2, none⟩ = some (strV p.1) ∧ w.cell? ⟨b, i * 2 + 1, none⟩ = some (strV p.2)
theorem RdPairs.below {w w' : World} {a : Option Addr} {ps : List Pr} (h : RdPairs w a ps) (hb : Below w.heap.size w w') : RdPairs w' a ps := by
  intro hne
  obtain ⟨b, h1, h2, h3⟩ := h hne
  exact ⟨b, h1, Nat.lt_of_lt_of_le h2 hb.size, fun i p hi => ⟨below_keeps hb _ _ (h3 i p hi).1, below_keeps hb _ _ (h3 i p hi).2⟩⟩
theorem RdPairs.of_owns {w : World} {base n c : Nat} {a : Option Addr} {e : TypeId} {ps : List Pr} (h : w.ownsRow base e 2 (.slice a n c) n (pairsV ps)) : RdPairs w a ps := by
  intro hne
  rcases h.2 with ⟨e1, e2⟩ | ⟨g, cap, cur, e1, _, hg, _, _, _, ht⟩
  · have h1 := h.1
    rw [e2, pairsV_length] at h1
    exact absurd (List.eq_nil_of_length_eq_zero (by omega)) hne
  · obtain ⟨rfl, _, _⟩ := Value.slice.inj e1
    have key : ∀ j u, (pairsV ps)[j]? = some u → w.cell? ⟨g, j, none⟩ = some u := by
      intro j u hj
      rw [cell_of_heap hg]
      rw [← ht, List.getElem?_take] at hj
      split at hj
      · rw [← Array.getElem?_toList]; exact hj
      · cases hj
    exact ⟨g, rfl, lt_of_heap hg, fun i p hi => ⟨key _ _ (pairsV_at ps i p hi).1, key _ _ (pairsV_at ps i p hi).2⟩⟩

/-- What the order of keys says. -/
def cmpK (a b : List UInt8) : Int := if Op.bytesLess a b then -1 else if a = b then 0 else 1
set_option maxHeartbeats 1000000 in
theorem cmp_any (w : World) (k v t : List UInt8) :
    Calls Try.prog 40 #[.agg #[strV k, strV v], strV t] w fun e w' => e = .returned (.int .i64 (cmpK k t)) ∧ Below w.heap.size w w' := by
  unfold strV
  go_enter Try.func40, Try.ntmps40
  go_wp2
  · have h : Op.bytesLess k t = true := by assumption
    go_ret
    exact ⟨by unfold cmpK; rw [if_pos h]; rfl, (Below.refl _ w).alloc (Nat.le_refl _) _⟩
  · have h : Op.bytesLess k t = false := by assumption
    have g : (!k == t) = true := by assumption
    go_ret
    exact ⟨by unfold cmpK; rw [if_neg (by simp [h]), if_neg (by simpa using g)]; rfl, (Below.refl _ w).alloc (Nat.le_refl _) _⟩
  · have h : Op.bytesLess k t = false := by assumption
    have g : (!k == t) = false := by assumption
    go_ret
    exact ⟨by unfold cmpK; rw [if_neg (by simp [h]), if_pos (by simpa using g)]; rfl, (Below.refl _ w).alloc (Nat.le_refl _) _⟩
theorem cmpK_lt {a b : List UInt8} : cmpK a b < 0 ↔ Op.bytesLess a b = true := by
  unfold cmpK
  split
  · simp_all
  · split <;> simp_all
theorem cmpK_eq {a b : List UInt8} : cmpK a b = 0 ↔ a = b := by
  unfold cmpK
  split
  · rename_i h
    constructor
    · intro h; cases h
    · intro e; exact absurd e (less_ne h)
  · split <;> simp_all
/-- What a search finds. -/
def Found (ps : List Pr) (k : List UInt8) (w : World) (e : Ending) (w' : World) : Prop :=
  ∃ (i : Nat) (b : Bool), e = .returned (.tuple #[.int .i64 i, .bool b]) ∧ Pos ps k i ∧ (b = true ↔ ∃ v, (k, v) ∈ ps) ∧ Below w.heap.size w w'
theorem found_in {ps : List Pr} {k : List UInt8} {i : Nat} (hs : Srt ps) (h : Pos ps k i) (p : Pr) (hp : ps[i]? = some p) : (cmpK p.1 k == 0) = true ↔ ∃ v, (k, v) ∈ ps := by
  rw [beq_iff_eq, cmpK_eq]
  constructor
  · intro e; exact ⟨p.2, by rw [← e]; exact List.mem_of_getElem? hp⟩
  · rintro ⟨v, hv⟩
    have := h.at hs hv
    rw [hp] at this
    rw [Option.some.inj this]
theorem found_out {ps : List Pr} {k : List UInt8} (hs : Srt ps) (h : Pos ps k ps.length) : false = true ↔ ∃ v, (k, v) ∈ ps := by
  constructor
  · intro e; cases e
  · rintro ⟨v, hv⟩
    have := (List.getElem?_eq_some_iff.1 (h.at hs hv)).1
    omega
theorem pos_of {ps : List Pr} {k : List UInt8} {lo hi : Nat} (h : lo ≤ hi) (h2 : ¬ lo < hi) (hh : hi ≤ ps.length) (hl : ∀ t p, t < lo → ps[t]? = some p → Op.bytesLess p.1 k = true) (hg : ∀ t p, hi ≤ t → ps[t]? = some p → Op.bytesLess p.1 k = false) : Pos ps k lo := by
  obtain rfl : lo = hi := by omega
  exact ⟨hh, hl, hg⟩
theorem low_step {ps : List Pr} {k : List UInt8} {m : Nat} {p : Pr} (hs : Srt ps) (hm : ps[m]? = some p) (hp : cmpK p.1 k < 0) (t : Nat) (q : Pr) (ht : t < m + 1) (hq : ps[t]? = some q) : Op.bytesLess q.1 k = true := by
  have hp := cmpK_lt.1 hp
  rcases Nat.lt_or_ge t m with h | h
  · exact less_trans _ _ _ (hs.lt h hq hm) hp
  · obtain rfl : t = m := by omega
    rw [hm] at hq
    rw [← Option.some.inj hq]; exact hp
theorem high_step {ps : List Pr} {k : List UInt8} {m : Nat} {p : Pr} (hs : Srt ps) (hm : ps[m]? = some p) (hp : ¬ cmpK p.1 k < 0) (t : Nat) (q : Pr) (ht : m ≤ t) (hq : ps[t]? = some q) : Op.bytesLess q.1 k = false := by
  have hp : Op.bytesLess p.1 k = false := by
    cases hb : Op.bytesLess p.1 k
    · rfl
    · exact absurd (cmpK_lt.2 hb) hp
  rcases Nat.eq_or_lt_of_le ht with rfl | h
  · rw [hm] at hq
    rw [← Option.some.inj hq]; exact hp
  · cases hb : Op.bytesLess q.1 k
    · rfl
    · have := less_trans _ _ _ (hs.lt h hm hq) hb
      rw [hp] at this; cases this
set_option maxHeartbeats 1000000 in
theorem bs_any (w : World) (a : Option Addr) (c : Nat) (ps : List Pr) (k : List UInt8) (hr : RdPairs w a ps) (hs : Srt ps) (hl : ps.length ≤ 140737488351232) :
    Calls Try.prog 39 #[.slice a ps.length c, strV k, .func (.func 40) #[] #[]] w (Found ps k w) := by
  have HR := Lib.hid hr; have HS := Lib.hid hs; clear hr hs
  go_enter Try.func39, Try.ntmps39
  go_wp2_with fail
  go_loopw [9, 10] (fun x y wr => ∃ (lo hi : Nat), lo ≤ hi ∧ hi ≤ ps.length ∧ x = .int .i64 lo ∧ y = .int .i64 hi ∧ Hid (∀ t p, t < lo → ps[t]? = some p → Op.bytesLess p.1 k = true) ∧ Hid (∀ t p, hi ≤ t → ps[t]? = some p → Op.bytesLess p.1 k = false) ∧ Hid (Below w.heap.size w wr)) (fun x y _ => (intOf y).toNat - (intOf x).toNat)
  case atStart => exact ⟨0, ps.length, Nat.zero_le _, Nat.le_refl _, rfl, rfl, fun t p h => absurd h (Nat.not_lt_zero _), fun t p h hp => absurd (List.getElem?_eq_some_iff.1 hp).1 (by omega), Below.refl _ _⟩
  case round =>
    obtain ⟨lo, hi, hlh, hhi, rfl, rfl, hlo, hhg, hbl⟩ := hrel
    by_cases hlt : lo < hi
    · have hne : ps ≠ [] := by intro e; rw [e] at hhi; simp at hhi; omega
      obtain ⟨b, rfl, hb, hc⟩ := (HR.out.below hbl.out) hne
      obtain ⟨p, hp⟩ : ∃ p, ps[(lo + hi) / 2]? = some p := ⟨_, List.getElem?_eq_getElem (by omega)⟩
      obtain ⟨c0, c1⟩ := hc _ p hp
      have HP := Lib.hid hp; clear hp hc
      by_cases hcm : cmpK p.1 k < 0
      · go_wp2_with fail
        refine (cmp_any _ _ _ _).mono ?_
        rintro e w' ⟨rfl, hb'⟩
        have HB := Lib.hid (hbl.out.trans (hb'.mono hbl.out.size)); clear hb'
        go_wp2_with fail
        go_roundw
        case rel => exact ⟨(lo + hi) / 2 + 1, hi, by omega, hhi, by go_num, rfl, fun t q ht hq => low_step HS.out HP.out hcm t q ht hq, hhg, HB.out⟩
        case measure => simp [intOf]; omega
      · go_wp2_with fail
        refine (cmp_any _ _ _ _).mono ?_
        rintro e w' ⟨rfl, hb'⟩
        have HB := Lib.hid (hbl.out.trans (hb'.mono hbl.out.size)); clear hb'
        go_wp2_with fail
        go_roundw
        case rel => exact ⟨lo, (lo + hi) / 2, by omega, by omega, rfl, by go_num, hlo, fun t q ht hq => high_step HS.out HP.out (by omega) t q ht hq, HB.out⟩
        case measure => simp [intOf]; omega
    · have hpos := Lib.hid (pos_of hlh hlt hhi hlo.out hhg.out)
      clear hlo hhg
      by_cases hin : lo < ps.length
      · have hne : ps ≠ [] := by intro e; rw [e] at hin; exact absurd hin (Nat.not_lt_zero _)
        obtain ⟨b, rfl, hb, hc⟩ := (HR.out.below hbl.out) hne
        obtain ⟨p, hp⟩ : ∃ p, ps[lo]? = some p := ⟨_, List.getElem?_eq_getElem hin⟩
        obtain ⟨c0, c1⟩ := hc _ p hp
        have HP := Lib.hid hp; clear hp hc
        go_wp2_with fail
        refine (cmp_any _ _ _ _).mono ?_
        rintro e w' ⟨rfl, hb'⟩
        have HB := Lib.hid (hbl.out.trans (hb'.mono hbl.out.size)); clear hb'
        go_wp2_with fail
        go_ret2
        exact ⟨lo, _, rfl, hpos.out, found_in HS.out hpos.out p HP.out, HB.out⟩
      · go_wp2_with fail
        go_ret2
        refine ⟨lo, _, rfl, hpos.out, ?_, hbl.out⟩
        have e : lo = ps.length := by omega
        have hp := hpos.out
        rw [e] at hp
        exact found_out HS.out hp
end Go.Proofs.Ytipindjchcmckaa
