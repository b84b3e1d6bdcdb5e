/- DERIVED. Names and paths, as plain functions on bytes. No program in sight. -/
import Derived.WalkKit
namespace Go.Proofs.YtjcimajkjnjdpaaDoor
set_option linter.unusedVariables false

def okB (c : UInt8) : Bool := (97 ≤ c && c ≤ 122) || (48 ≤ c && c ≤ 57) || c == 45 || c == 95 || c == 46
def nameB (l : List UInt8) : Bool := !l.isEmpty && decide (l.length ≤ 32) && (l.head? != some 46) && l.all okB
def addHead (c : UInt8) : List (List UInt8) → List (List UInt8)
  | [] => [[c]]
  | p :: ps => (c :: p) :: ps
/-- What stands between strokes. -/
def pieces : List UInt8 → List (List UInt8)
  | [] => [[]]
  | c :: r => if c = 47 then [] :: pieces r else addHead c (pieces r)
def goodB (l : List UInt8) : Bool := decide (l.length ≤ 128) && decide ((pieces l).length ≤ 8) && (pieces l).all nameB
theorem addHead_ne (c : UInt8) (ps : List (List UInt8)) : addHead c ps ≠ [] := by cases ps <;> simp [addHead]
theorem pieces_ne (l : List UInt8) : pieces l ≠ [] := by
  cases l with
  | nil => simp [pieces]
  | cons c r => unfold pieces; split <;> simp [addHead_ne]
theorem pieces_pos (l : List UInt8) : 0 < (pieces l).length := List.length_pos_iff.2 (pieces_ne l)
theorem pieces_slash (r : List UInt8) : pieces (47 :: r) = [] :: pieces r := by simp [pieces]
theorem pieces_other (c : UInt8) (r : List UInt8) (h : c ≠ 47) : pieces (c :: r) = addHead c (pieces r) := by simp [pieces, h]
theorem addHead_length (c : UInt8) (ps : List (List UInt8)) (h : ps ≠ []) : (addHead c ps).length = ps.length := by cases ps <;> simp_all [addHead]
/-- One piece more for each stroke. -/
theorem pieces_count : ∀ l : List UInt8, (pieces l).length = l.count 47 + 1
  | [] => rfl
  | c :: r => by
    by_cases h : c = 47
    · subst h
      rw [pieces_slash, List.length_cons, pieces_count r]; simp
    · rw [pieces_other c r h, addHead_length c _ (pieces_ne r), pieces_count r]; simp [h]
theorem pieces_plain : ∀ l : List UInt8, (47 : UInt8) ∉ l → pieces l = [l]
  | [], _ => rfl
  | c :: r, h => by
    have h1 : c ≠ 47 := fun e => h (by simp [e])
    rw [pieces_other c r h1, pieces_plain r (fun e => h (by simp [e]))]; rfl
theorem pieces_at : ∀ (a b : List UInt8), pieces (a ++ 47 :: b) = pieces a ++ pieces b
  | [], b => by simp [pieces]
  | c :: a, b => by
    by_cases h : c = 47
    · subst h
      simp [pieces, pieces_at a b]
    · rw [List.cons_append, pieces_other c _ h, pieces_other c _ h, pieces_at a b]
      cases hp : pieces a with
      | nil => exact absurd hp (pieces_ne a)
      | cons p ps => rfl
/-- A text of plain bytes and a stroke ahead. -/
theorem pieces_first (p r : List UInt8) (h : (47 : UInt8) ∉ p) : pieces (p ++ 47 :: r) = p :: pieces r := by rw [pieces_at, pieces_plain p h]; rfl
/-- The pieces, with strokes between them, are the text. -/
def glue : List (List UInt8) → List UInt8
  | [] => []
  | [p] => p
  | p :: q :: ps => p ++ 47 :: glue (q :: ps)
theorem glue_addHead (c : UInt8) : ∀ ps : List (List UInt8), ps ≠ [] → glue (addHead c ps) = c :: glue ps
  | [], h => absurd rfl h
  | [p], _ => rfl
  | p :: q :: ps, _ => rfl
theorem glue_pieces : ∀ l : List UInt8, glue (pieces l) = l
  | [] => rfl
  | c :: r => by
    by_cases h : c = 47
    · subst h
      rw [pieces_slash]
      cases hp : pieces r with
      | nil => exact absurd hp (pieces_ne r)
      | cons p ps =>
        show [] ++ 47 :: glue (p :: ps) = _
        rw [← hp, glue_pieces r]; rfl
    · rw [pieces_other c r h, glue_addHead c _ (pieces_ne r), glue_pieces r]
theorem pieces_no (l : List UInt8) : ∀ p ∈ pieces l, (47 : UInt8) ∉ p := by
  induction l with
  | nil => intro p hp; simp [pieces] at hp; simp [hp]
  | cons c r ih =>
    intro p hp
    by_cases h : c = 47
    · subst h
      rw [pieces_slash] at hp
      rcases List.mem_cons.1 hp with rfl | hp
      · simp
      · exact ih p hp
    · rw [pieces_other c r h] at hp
      cases hq : pieces r with
      | nil => exact absurd hq (pieces_ne r)
      | cons q qs =>
        rw [hq] at hp
        rcases List.mem_cons.1 hp with rfl | hp
        · intro h'
          rcases List.mem_cons.1 h' with e | e
          · exact h e.symm
          · exact ih q (by rw [hq]; simp) e
        · exact ih p (by rw [hq]; simp [hp])
/-! ### Join, Base, Under -/
def putBehind (d s : List UInt8) : List UInt8 := if d = [] then s else d ++ 47 :: s
def placeB (d : List UInt8) : Bool := d.isEmpty || goodB d
def joinP (d s : List UInt8) : List UInt8 × Int := if placeB d && goodB s && goodB (putBehind d s) then (putBehind d s, 0) else ([], 10)
/-- What stands behind the last stroke, and ahead of it. -/
def lastSlash : List UInt8 → Option Nat
  | [] => none
  | c :: r => match lastSlash r with
    | some i => some (i + 1)
    | none => if c = 47 then some 0 else none
def baseP (s : List UInt8) : List UInt8 × List UInt8 := if goodB s then (match lastSlash s with | none => ([], s) | some i => (s.take i, s.drop (i + 1))) else ([], [])
def underP (d s : List UInt8) : List UInt8 × Bool :=
  if goodB s && placeB d then (if d = [] then (s, true) else if s.take (d.length + 1) = d ++ [47] then (s.drop (d.length + 1), true) else ([], false)) else ([], false)
theorem lastSlash_none : ∀ s : List UInt8, lastSlash s = none ↔ (47 : UInt8) ∉ s
  | [] => by simp [lastSlash]
  | c :: r => by
    have ih := lastSlash_none r
    unfold lastSlash
    cases h : lastSlash r with
    | none =>
      have := ih.1 h
      by_cases hc : c = 47
      · simp [hc]
      · simp [hc, this, Ne.symm hc]
    | some i =>
      have : (47 : UInt8) ∈ r := by
        apply Classical.byContradiction
        intro hn
        rw [ih.2 hn] at h; cases h
      simp [this]
theorem lastSlash_some : ∀ (s : List UInt8) (i : Nat), lastSlash s = some i → s[i]? = some 47 ∧ (47 : UInt8) ∉ s.drop (i + 1)
  | [], i, h => by cases h
  | c :: r, i, h => by
    unfold lastSlash at h
    cases hr : lastSlash r with
    | none =>
      rw [hr] at h
      simp only at h
      split at h
      · rename_i hc
        obtain rfl := Option.some.inj h
        exact ⟨by simp [hc], by simpa using (lastSlash_none r).1 hr⟩
      · cases h
    | some j =>
      rw [hr] at h
      obtain rfl := Option.some.inj h
      have := lastSlash_some r j hr
      exact ⟨by simpa using this.1, by simpa using this.2⟩
theorem lastSlash_is (s : List UInt8) (i : Nat) (h1 : s[i]? = some 47) (h2 : (47 : UInt8) ∉ s.drop (i + 1)) : lastSlash s = some i := by
  cases h : lastSlash s with
  | none => exact absurd (List.mem_of_getElem? h1) ((lastSlash_none s).1 h)
  | some j =>
    obtain ⟨g1, g2⟩ := lastSlash_some s j h
    rcases Nat.lt_trichotomy i j with hl | rfl | hl
    · exact absurd (List.mem_of_getElem? (l := s.drop (i + 1)) (i := j - (i + 1)) (by rw [List.getElem?_drop, show i + 1 + (j - (i + 1)) = j from by omega]; exact g1)) h2
    · rfl
    · exact absurd (List.mem_of_getElem? (l := s.drop (j + 1)) (i := i - (j + 1)) (by rw [List.getElem?_drop, show j + 1 + (i - (j + 1)) = i from by omega]; exact h1)) g2
end Go.Proofs.YtjcimajkjnjdpaaDoor
