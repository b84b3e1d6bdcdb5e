/- DERIVED. Texts of this claim, put together: PathMath, PathLib, PathSplit, PathName, PathGoodV, PathUnderV. -/
import Derived.WalkKit
import Derived.Test.YtjcimajkjnjdpabGreatDoorMBase
import Derived.Lib.Bytealg
import Derived.Laws.MakeOwn
import Derived.Lib.Strings
import Derived.Lib.OthersKept
import Derived.Laws.RangeAny
import Derived.Deep.LoopGhost
import Derived.Lib.TrimU
import Derived.Shelf.Abstract
import Derived.Laws.EntriesVeiled
/- DERIVED. Names and paths, as plain functions on bytes. No program in sight. -/
namespace Go.Proofs.YtjcimajkjnjdpabGreatDoor
set_option linter.unusedVariables false

def okB (c : UInt8) : Bool := (97 ≤ c && c ≤ 122) || (48 ≤ c && c ≤ 57) || c == 45 || c == 95 || c == 46
def nameB (l : List UInt8) : Bool := !l.isEmpty && decide (l.length ≤ 32) && (l.head? != some 46) && l.all okB
def addHead (c : UInt8) : List (List UInt8) → List (List UInt8)
  | [] => [[c]]
  | p :: ps => (c :: p) :: ps
/-- What stands between strokes. -/
def pieces : List UInt8 → List (List UInt8)
  | [] => [[]]
  | c :: r => if c = 47 then [] :: pieces r else addHead c (pieces r)
def goodB (l : List UInt8) : Bool := decide (l.length ≤ 128) && decide ((pieces l).length ≤ 8) && (pieces l).all nameB
theorem addHead_ne (c : UInt8) (ps : List (List UInt8)) : addHead c ps ≠ [] := by cases ps <;> simp [addHead]
theorem pieces_ne (l : List UInt8) : pieces l ≠ [] := by
  cases l with
  | nil => simp [pieces]
  | cons c r => unfold pieces; split <;> simp [addHead_ne]
theorem pieces_pos (l : List UInt8) : 0 < (pieces l).length := List.length_pos_iff.2 (pieces_ne l)
theorem pieces_slash (r : List UInt8) : pieces (47 :: r) = [] :: pieces r := by simp [pieces]
theorem pieces_other (c : UInt8) (r : List UInt8) (h : c ≠ 47) : pieces (c :: r) = addHead c (pieces r) := by simp [pieces, h]
theorem addHead_length (c : UInt8) (ps : List (List UInt8)) (h : ps ≠ []) : (addHead c ps).length = ps.length := by cases ps <;> simp_all [addHead]
/-- One piece more for each stroke. -/
theorem pieces_count : ∀ l : List UInt8, (pieces l).length = l.count 47 + 1
  | [] => rfl
  | c :: r => by
    by_cases h : c = 47
    · subst h
      rw [pieces_slash, List.length_cons, pieces_count r]; simp
    · rw [pieces_other c r h, addHead_length c _ (pieces_ne r), pieces_count r]; simp [h]
theorem pieces_plain : ∀ l : List UInt8, (47 : UInt8) ∉ l → pieces l = [l]
  | [], _ => rfl
  | c :: r, h => by
    have h1 : c ≠ 47 := fun e => h (by simp [e])
    rw [pieces_other c r h1, pieces_plain r (fun e => h (by simp [e]))]; rfl
theorem pieces_at : ∀ (a b : List UInt8), pieces (a ++ 47 :: b) = pieces a ++ pieces b
  | [], b => by simp [pieces]
  | c :: a, b => by
    by_cases h : c = 47
    · subst h
      simp [pieces, pieces_at a b]
    · rw [List.cons_append, pieces_other c _ h, pieces_other c _ h, pieces_at a b]
      cases hp : pieces a with
      | nil => exact absurd hp (pieces_ne a)
      | cons p ps => rfl
/-- A text of plain bytes and a stroke ahead. -/
theorem pieces_first (p r : List UInt8) (h : (47 : UInt8) ∉ p) : pieces (p ++ 47 :: r) = p :: pieces r := by rw [pieces_at, pieces_plain p h]; rfl
/-- The pieces, with strokes between them, are the text. -/
def glue : List (List UInt8) → List UInt8
  | [] => []
  | [p] => p
  | p :: q :: ps => p ++ 47 :: glue (q :: ps)
theorem glue_addHead (c : UInt8) : ∀ ps : List (List UInt8), ps ≠ [] → glue (addHead c ps) = c :: glue ps
  | [], h => absurd rfl h
  | [p], _ => rfl
  | p :: q :: ps, _ => rfl
theorem glue_pieces : ∀ l : List UInt8, glue (pieces l) = l
  | [] => rfl
  | c :: r => by
    by_cases h : c = 47
    · subst h
      rw [pieces_slash]
      cases hp : pieces r with
      | nil => exact absurd hp (pieces_ne r)
      | cons p ps =>
        show [] ++ 47 :: glue (p :: ps) = _
        rw [← hp, glue_pieces r]; rfl
    · rw [pieces_other c r h, glue_addHead c _ (pieces_ne r), glue_pieces r]
theorem pieces_no (l : List UInt8) : ∀ p ∈ pieces l, (47 : UInt8) ∉ p := by
  induction l with
  | nil => intro p hp; simp [pieces] at hp; simp [hp]
  | cons c r ih =>
    intro p hp
    by_cases h : c = 47
    · subst h
      rw [pieces_slash] at hp
      rcases List.mem_cons.1 hp with rfl | hp
      · simp
      · exact ih p hp
    · rw [pieces_other c r h] at hp
      cases hq : pieces r with
      | nil => exact absurd hq (pieces_ne r)
      | cons q qs =>
        rw [hq] at hp
        rcases List.mem_cons.1 hp with rfl | hp
        · intro h'
          rcases List.mem_cons.1 h' with e | e
          · exact h e.symm
          · exact ih q (by rw [hq]; simp) e
        · exact ih p (by rw [hq]; simp [hp])
/-! ### Join, Base, Under -/
def putBehind (d s : List UInt8) : List UInt8 := if d = [] then s else d ++ 47 :: s
def placeB (d : List UInt8) : Bool := d.isEmpty || goodB d
def joinP (d s : List UInt8) : List UInt8 × Int := if placeB d && goodB s && goodB (putBehind d s) then (putBehind d s, 0) else ([], 10)
/-- What stands behind the last stroke, and ahead of it. -/
def lastSlash : List UInt8 → Option Nat
  | [] => none
  | c :: r => match lastSlash r with
    | some i => some (i + 1)
    | none => if c = 47 then some 0 else none
def baseP (s : List UInt8) : List UInt8 × List UInt8 := if goodB s then (match lastSlash s with | none => ([], s) | some i => (s.take i, s.drop (i + 1))) else ([], [])
def underP (d s : List UInt8) : List UInt8 × Bool :=
  if goodB s && placeB d then (if d = [] then (s, true) else if s.take (d.length + 1) = d ++ [47] then (s.drop (d.length + 1), true) else ([], false)) else ([], false)
theorem lastSlash_none : ∀ s : List UInt8, lastSlash s = none ↔ (47 : UInt8) ∉ s
  | [] => by simp [lastSlash]
  | c :: r => by
    have ih := lastSlash_none r
    unfold lastSlash
    cases h : lastSlash r with
    | none =>
      have := ih.1 h
      by_cases hc : c = 47
      · simp [hc]
      · simp [hc, this, Ne.symm hc]
    | some i =>
      have : (47 : UInt8) ∈ r := by
        apply Classical.byContradiction
        intro hn
        rw [ih.2 hn] at h; cases h
      simp [this]
theorem lastSlash_some : ∀ (s : List UInt8) (i : Nat), lastSlash s = some i → s[i]? = some 47 ∧ (47 : UInt8) ∉ s.drop (i + 1)
  | [], i, h => by cases h
  | c :: r, i, h => by
    unfold lastSlash at h
    cases hr : lastSlash r with
    | none =>
      rw [hr] at h
      simp only at h
      split at h
      · rename_i hc
        obtain rfl := Option.some.inj h
        exact ⟨by simp [hc], by simpa using (lastSlash_none r).1 hr⟩
      · cases h
    | some j =>
      rw [hr] at h
      obtain rfl := Option.some.inj h
      have := lastSlash_some r j hr
      exact ⟨by simpa using this.1, by simpa using this.2⟩
theorem lastSlash_is (s : List UInt8) (i : Nat) (h1 : s[i]? = some 47) (h2 : (47 : UInt8) ∉ s.drop (i + 1)) : lastSlash s = some i := by
  cases h : lastSlash s with
  | none => exact absurd (List.mem_of_getElem? h1) ((lastSlash_none s).1 h)
  | some j =>
    obtain ⟨g1, g2⟩ := lastSlash_some s j h
    rcases Nat.lt_trichotomy i j with hl | rfl | hl
    · exact absurd (List.mem_of_getElem? (l := s.drop (i + 1)) (i := j - (i + 1)) (by rw [List.getElem?_drop, show i + 1 + (j - (i + 1)) = j from by omega]; exact g1)) h2
    · rfl
    · exact absurd (List.mem_of_getElem? (l := s.drop (j + 1)) (i := i - (j + 1)) (by rw [List.getElem?_drop, show j + 1 + (i - (j + 1)) = i from by omega]; exact h1)) g2
end Go.Proofs.YtjcimajkjnjdpabGreatDoor

/- DERIVED. The walks of the library's strings.Index, Count, Split at a stroke. -/
namespace Go.Proofs.YtjcimajkjnjdpabGreatDoor
open Go.RowKit
set_option linter.unusedVariables false
set_option maxRecDepth 100000

theorem run_make_rowN {P : Program} (t e : TypeId) (i : TypeInfo) (z : Value) (ht : P.underlying t = some (.slice e)) (hi : P.info? e = some i) (hz : i.zero = some z)
    (kl kc : IntKind) (n c : Nat) (hnc : n ≤ c) (hbytes : i.bytes * c ≤ 281474976710656) (h63 : c ≤ 9223372036854775807) (w : World) :
    (Instr.makeSlice t (.int kl (n : Int)) (.int kc (c : Int))).run P w = .ok (.slice (some ⟨w.heap.size, 0, none⟩) n c) (w.alloc (.cells (madeCells z.cells (c * i.size)) e)) := by
  have hb : (i.bytes : Int) * (c : Int) ≤ 281474976710656 := by
    have h : ((i.bytes * c : Nat) : Int) ≤ 281474976710656 := by omega
    rwa [Int.natCast_mul] at h
  have hr := run_make (P := P) w t e i z ht hi hz kl kc n c (by omega) (by omega) hb (by omega)
  simp only [Int.toNat_natCast] at hr
  exact hr
/-- Where the first stroke stands; -1: nowhere. -/
def idxI (s : ByteArray) : Int := Lib.indexByte s.data.toList 47
set_option maxHeartbeats 400000 in
set_option maxRecDepth 100000 in
theorem index_any (s : ByteArray) (w : World) :
    Calls Tryz.prog 78 #[.string s, .string ⟨#[47]⟩] w fun e w' => e = .returned (.int .i64 (idxI s)) ∧ w = w' := by
  have h0 : ∀ w, Calls Tryz.prog 104 #[.string s, .int .u8 47] w fun e w' => e = .returned (.int .i64 (idxI s)) ∧ w = w' := by
    intro w
    go_enter Tryz.func104, Tryz.ntmps104
    go_wp2_with fail
    rw [run_callFunc_extern (P := Tryz.prog) Tryz.func117 (by kernel_rfl) (by kernel_rfl) (by kernel_rfl) (e := Extern.BytealgIndexByte.indexByte) (by kernel_rfl), Lib.run_indexByteString]
    go_wp2
    go_ret
    exact ⟨rfl, rfl⟩
  have h1 : Calls Tryz.prog 84 #[.string s, .string ⟨#[47]⟩] w fun e w' => e = .returned (.int .i64 (idxI s)) ∧ w = w' := by
    by_cases hs : s.data.toList = [47]
    · have e : idxI s = 0 := by unfold idxI; rw [hs]; decide
      rw [e]
      obtain rfl : s = ⟨#[47]⟩ := by
        apply ByteArray.ext
        apply Array.ext'
        exact hs
      clear hs e h0
      go_enter Tryz.func84, Tryz.ntmps84
      go_wp2
      go_ret
      exact ⟨rfl, rfl⟩
    · have hq : ([47] == s.toList) = false := by
        rw [ByteArray.toList_eq]
        simpa using fun e => hs e.symm
      have H0 := Lib.hid h0
      clear hs h0
      go_enter Tryz.func84, Tryz.ntmps84
      go_wp2_with fail
      refine (H0.out _).mono ?_
      rintro e w' ⟨rfl, rfl⟩
      go_wp2
      go_ret
      exact ⟨rfl, rfl⟩
  go_enter Tryz.func78, Tryz.ntmps78
  go_wp2_with fail
  refine h1.mono ?_
  rintro e w' ⟨rfl, rfl⟩
  go_wp2
  go_ret
  exact ⟨rfl, rfl⟩
set_option maxHeartbeats 400000 in
theorem count_any (s : ByteArray) (w : World) :
    Calls Tryz.prog 77 #[.string s, .string ⟨#[47]⟩] w fun e w' => e = .returned (.int .i64 (s.data.toList.count 47)) ∧ w = w' := by
  go_enter Tryz.func77, Tryz.ntmps77
  go_wp2_with fail
  rw [run_callFunc_extern (P := Tryz.prog) Tryz.func102 (by kernel_rfl) (by kernel_rfl) (by kernel_rfl) (e := Extern.BytealgCount.count) (by kernel_rfl), Lib.run_countString]
  go_wp2
  go_ret
  exact ⟨rfl, rfl⟩
end Go.Proofs.YtjcimajkjnjdpabGreatDoor

/- DERIVED. The walk of strings.Split at a stroke. -/
namespace Go.Proofs.YtjcimajkjnjdpabGreatDoor
open Go.RowKit
set_option linter.unusedVariables false

theorem index_hit : ∀ r : List UInt8, (47 : UInt8) ∈ r → ∃ m : Nat, Lib.indexByte r 47 = m ∧ m < r.length ∧ r = r.take m ++ 47 :: r.drop (m + 1) ∧ (47 : UInt8) ∉ r.take m
  | [], h => by cases h
  | c :: r, h => by
    by_cases hc : c = 47
    · subst hc
      exact ⟨0, by simp [Lib.indexByte], by simp, by simp, by simp⟩
    · have hr : (47 : UInt8) ∈ r := by
        rcases List.mem_cons.1 h with e | h
        · exact absurd e.symm hc
        · exact h
      obtain ⟨m, h1, h2, h3, h4⟩ := index_hit r hr
      refine ⟨m + 1, ?_, by simp; omega, ?_, ?_⟩
      · have hcb : (c == (47 : UInt8)) = false := by simpa using hc
        unfold Lib.indexByte
        rw [h1]
        simp [hc]
      · rw [List.take_succ_cons, List.cons_append, List.drop_succ_cons, ← h3]
      · rw [List.take_succ_cons]
        intro h'
        rcases List.mem_cons.1 h' with e | e
        · exact hc e.symm
        · exact h4 e
theorem pieces_hit {r : List UInt8} {m : Nat} (h3 : r = r.take m ++ 47 :: r.drop (m + 1)) (h4 : (47 : UInt8) ∉ r.take m) : pieces r = r.take m :: pieces (r.drop (m + 1)) := by
  have := pieces_first (r.take m) (r.drop (m + 1)) h4
  rwa [← h3] at this
theorem pieces_two {r : List UInt8} (h : 2 ≤ (pieces r).length) : (47 : UInt8) ∈ r := by
  rw [pieces_count] at h
  exact List.count_pos_iff.1 (by omega)
theorem pieces_one {r : List UInt8} (h : (pieces r).length = 1) : pieces r = [r] := by
  refine pieces_plain r (fun hm => ?_)
  have := List.count_pos_iff.2 hm
  rw [pieces_count] at h
  omega
theorem strV_data (B : ByteArray) : Value.string B = strV B.data.toList := rfl
def SplitTo (ps : List (List UInt8)) (w : World) (e : Ending) (w' : World) : Prop := ∃ a c, e = .returned (.slice a ps.length c) ∧ RdStrs w' a ps ∧ Below w.heap.size w w'
theorem rd_cells {w : World} {B : Nat} {C : Array Value} {T : TypeId} {ps : List (List UInt8)} (h : w.heap[B]? = some (.cells C T (0, 0))) (hc : ∀ (j : Nat) p, ps[j]? = some p → C[j]? = some (strV p)) : RdStrs w (some ⟨B, 0, none⟩) ps := by
  intro _
  refine ⟨B, 0, rfl, fun i l hi => ?_⟩
  rw [cell_of_heap h, Nat.zero_add]
  exact hc i l hi
set_option maxHeartbeats 1000000 in
theorem gen_any (S : ByteArray) (w : World) (hs : S.size ≤ 1000000) :
    Calls Tryz.prog 57 #[.string S, .string ⟨#[47]⟩, .int .i64 0, .int .i64 (-1)] w (SplitTo (pieces S.data.toList) w) := by
  obtain ⟨l, hl⟩ : ∃ l, l = S.data.toList := ⟨_, rfl⟩
  have hsl : S.size = l.length := by rw [hl]; simp
  obtain ⟨n, hn⟩ : ∃ n, n = l.count 47 := ⟨_, rfl⟩
  have hnl : n ≤ l.length := by rw [hn]; exact List.count_le_length
  have hpl : (pieces l).length = n + 1 := by rw [hn]; exact pieces_count l
  have hcnt := count_any S w
  rw [← hl, ← hn] at hcnt
  rw [← hl]
  obtain ⟨i9, hi, hz0, hz1, hz2⟩ := info_parts info9
  have hmk := fun W => run_make_rowN (P := Tryz.prog) 66 9 i9 _ Tryz.underlying66 hi hz0 .i64 .i64 (n + 1) (n + 1) (Nat.le_refl _) (by rw [hz2]; omega) (by omega) W
  have ec : ((n + 1 : Nat) : Int) = (n : Int) + 1 := by omega
  rw [ec] at hmk
  have hmin : min ((n : Int) + 1) ((S.size : Int) + 1) = (n : Int) + 1 := by omega
  obtain ⟨C0, hC0⟩ : ∃ C0, C0 = madeCells (Value.string ByteArray.empty).cells ((n + 1) * i9.size) := ⟨_, rfl⟩
  rw [← hC0] at hmk
  have hC0s : C0.size = n + 1 := by rw [hC0, hz1]; simp [madeCells]
  have HC := Lib.hid hcnt; have HL := Lib.hid hl; have HPL := Lib.hid hpl; have HC0 := Lib.hid hC0s
  have hsn : n ≤ 1000000 := by omega
  have hne1 : ([47] : List UInt8).isEmpty = false := rfl
  clear hcnt hl hpl hn hC0 hC0s hz0 hz1 hz2 hi ec hnl hsl
  go_enter Tryz.func57, Tryz.ntmps57
  go_wp2_with fail
  refine HC.out.mono ?_
  rintro e w' ⟨rfl, rfl⟩
  go_wp2_with fail
  go_loopw [0, 10] (fun x i wr => ∃ (k : Nat) (R : ByteArray) (C : Array Value), k ≤ n ∧ R.size ≤ S.size ∧ x = .string R ∧ i = .int .i64 k ∧ wr.heap[w.heap.size]? = some (.cells C 9 (0, 0)) ∧ C.size = n + 1 ∧ Hid ((pieces l).drop k = pieces R.data.toList) ∧ Hid (∀ (j : Nat) p, j < k → (pieces l)[j]? = some p → C[j]? = some (strV p)) ∧ Hid (Below w.heap.size w wr)) (fun _ i _ => n - (intOf i).toNat)
  case atStart => exact ⟨0, S, C0, Nat.zero_le _, Nat.le_refl _, rfl, rfl, heap_alloc_new w _, HC0.out, (by have := HL.out; rw [List.drop_zero, this]; exact rfl), (fun j p h => absurd h (Nat.not_lt_zero _)), (Below.refl _ w).alloc (Nat.le_refl _) _⟩
  case round =>
    obtain ⟨k, R, C, hk, hRS, rfl, rfl, hhp, hCs, hdr, hcs, hbl⟩ := hrel
    obtain ⟨v0, hv0⟩ : ∃ v, C[k]? = some v := ⟨_, Array.getElem?_eq_getElem (by omega)⟩
    have hc0 : wr.cell? ⟨w.heap.size, k, none⟩ = some v0 := by rw [cell_of_heap hhp]; exact hv0
    have hfz := frozen_of_heap hhp k
    have HHP := Lib.hid hhp; have HCS := Lib.hid hCs
    have hstep : ∀ p : List UInt8, (pieces l)[k]? = some p → ∀ (j : Nat) q, j < k + 1 → (pieces l)[j]? = some q → (C.setIfInBounds k (strV p))[j]? = some (strV q) := by
      intro p hp j q hj hq
      rw [Array.getElem?_setIfInBounds]
      split
      · rename_i e
        subst e
        rw [hp] at hq
        obtain rfl := Option.some.inj hq
        rw [if_pos (by omega)]
      · exact hcs.out j q (by omega) hq
    have HST := Lib.hid hstep
    clear hhp hv0 hstep
    by_cases hlt : k < n
    · have hlen : (pieces R.data.toList).length = n + 1 - k := by rw [← hdr.out, List.length_drop, HPL.out]
      obtain ⟨m, hm1, hm2, hm3, hm4⟩ := index_hit R.data.toList (pieces_two (by omega))
      have hph := pieces_hit hm3 hm4
      have hRl : R.size = R.data.toList.length := by simp
      have hmR : m < R.size := by rw [hRl]; exact hm2
      have hidx := index_any R wr
      unfold idxI at hidx
      rw [hm1] at hidx
      have HIX := Lib.hid hidx
      have HPH := Lib.hid hph; have HRL := Lib.hid hRl
      clear hidx hph hm1 hm2 hm3 hm4 hlen hRl hCs
      go_wp2_with fail
      refine HIX.out.mono ?_
      rintro e w' ⟨rfl, rfl⟩
      go_wp2_with fail
      go_roundw
      case rel =>
        have e1 : (R.extract 0 m).data.toList = R.data.toList.take m := by rw [Lib.extract_data]; simp
        have e2 : (R.extract (m + 1) R.size).data.toList = R.data.toList.drop (m + 1) := by
          rw [Lib.extract_data]; exact List.take_of_length_le (by rw [List.length_drop, ← HRL.out]; exact Nat.le_refl _)
        have hd := hdr.out
        rw [HPH.out] at hd
        have hat : (pieces l)[k]? = some (R.data.toList.take m) := by
          have := congrArg (fun z : List (List UInt8) => z[0]?) hd
          simpa using this
        refine ⟨k + 1, R.extract (m + 1) R.size, C.setIfInBounds k (strV (R.data.toList.take m)), by omega, by simp; omega, rfl, by go_num, ?_, by simp; exact HCS.out, ?_, HST.out _ hat, hbl.out.setCell (p := ⟨w.heap.size, k, none⟩) (Nat.le_refl _) _⟩
        · rw [← e1]
          exact heap_setCell_here (i := k) (.string (R.extract 0 m)) HHP.out
        · rw [e2, ← List.drop_drop, hd]; rfl
      case measure => simp [intOf]; omega
    · obtain rfl : k = n := by omega
      have hlen : (pieces R.data.toList).length = 1 := by rw [← hdr.out, List.length_drop, HPL.out]; omega
      have hat : (pieces l)[k]? = some R.data.toList := by
        have hd := hdr.out
        rw [pieces_one hlen] at hd
        have := congrArg (fun z : List (List UInt8) => z[0]?) hd
        simpa using this
      have HAT := Lib.hid hat
      clear hat hlen
      go_wp2_with fail
      go_ret
      refine ⟨some ⟨w.heap.size, 0, none⟩, k + 1, by rw [HPL.out]; rfl, rd_cells (heap_setCell_here (i := k) (.string R) HHP.out) (fun j p hj => HST.out _ HAT.out j p ?_ hj), hbl.out.setCell (p := ⟨w.heap.size, k, none⟩) (Nat.le_refl _) _⟩
      have := (List.getElem?_eq_some_iff.1 hj).1
      rw [HPL.out] at this
      exact this
set_option maxHeartbeats 1000000 in
theorem split_any (S : ByteArray) (w : World) (hs : S.size ≤ 1000000) :
    Calls Tryz.prog 35 #[.string S, .string ⟨#[47]⟩] w (SplitTo (pieces S.data.toList) w) := by
  have HG := Lib.hid (gen_any S w hs)
  go_enter Tryz.func35, Tryz.ntmps35
  go_wp2_with fail
  refine HG.out.mono ?_
  rintro e w1 ⟨a, c, rfl, h1, h2⟩
  have H1 := Lib.hid h1; have H2 := Lib.hid h2; clear h1 h2
  go_wp2
  go_ret
  exact ⟨a, c, rfl, H1.out, H2.out⟩
end Go.Proofs.YtjcimajkjnjdpabGreatDoor

/- DERIVED. The walk of path.Name. -/
namespace Go.Proofs.YtjcimajkjnjdpabGreatDoor
open Go.RowKit
set_option linter.unusedVariables false

def okR (r : Int) : Bool := (decide (97 ≤ r) && decide (r ≤ 122)) || (decide (48 ≤ r) && decide (r ≤ 57)) || decide (r = 45) || decide (r = 95) || decide (r = 46)
theorem okR_byte (c : UInt8) : okR (c.toNat : Int) = okB c := by
  have h := c.toNat_lt
  unfold okR okB
  have e1 : (decide (97 ≤ (c.toNat : Int))) = decide (97 ≤ c) := by rw [decide_eq_decide]; show _ ↔ (97 : UInt8).toNat ≤ c.toNat; simp; omega
  have e2 : (decide ((c.toNat : Int) ≤ 122)) = decide (c ≤ 122) := by rw [decide_eq_decide]; show _ ↔ c.toNat ≤ (122 : UInt8).toNat; simp; omega
  have e3 : (decide (48 ≤ (c.toNat : Int))) = decide (48 ≤ c) := by rw [decide_eq_decide]; show _ ↔ (48 : UInt8).toNat ≤ c.toNat; simp; omega
  have e4 : (decide ((c.toNat : Int) ≤ 57)) = decide (c ≤ 57) := by rw [decide_eq_decide]; show _ ↔ c.toNat ≤ (57 : UInt8).toNat; simp; omega
  have e5 : ∀ n : UInt8, (decide ((c.toNat : Int) = (n.toNat : Int))) = (c == n) := by
    intro n
    rw [Bool.eq_iff_iff, decide_eq_true_iff, beq_iff_eq, ← UInt8.toNat_inj]
    omega
  have f5 := e5 45; have f6 := e5 95; have f7 := e5 46
  rw [e1, e2, e3, e4]
  rw [show (decide ((c.toNat : Int) = 45)) = (c == 45) from f5, show (decide ((c.toNat : Int) = 95)) = (c == 95) from f6, show (decide ((c.toNat : Int) = 46)) = (c == 46) from f7]
theorem okR_high (r : Int) (h : 128 ≤ r) : okR r = false := by
  unfold okR
  simp; omega
set_option maxHeartbeats 1000000 in
theorem ok_any (r : Int) (w : World) : Calls Tryz.prog 59 #[.int .i32 r] w fun e w' => e = .returned (.bool (okR r)) ∧ w = w' := by
  have key : (okR r = true ∧ (97 ≤ r ∧ r ≤ 122)) ∨ (okR r = true ∧ (48 ≤ r ∧ r ≤ 57)) ∨ (okR r = true ∧ r = 45) ∨ (okR r = true ∧ r = 95) ∨ (okR r = true ∧ r = 46) ∨ (okR r = false ∧ (r < 48 ∧ r ≠ 45 ∧ r ≠ 46)) ∨ (okR r = false ∧ (57 < r ∧ r < 97 ∧ r ≠ 95)) ∨ (okR r = false ∧ 122 < r) := by
    by_cases a1 : 97 ≤ r ∧ r ≤ 122
    · exact .inl ⟨by unfold okR; simp; omega, a1⟩
    · by_cases a2 : 48 ≤ r ∧ r ≤ 57
      · exact .inr (.inl ⟨by unfold okR; simp; omega, a2⟩)
      · by_cases a3 : r = 45
        · exact .inr (.inr (.inl ⟨by unfold okR; simp; omega, a3⟩))
        · by_cases a4 : r = 95
          · exact .inr (.inr (.inr (.inl ⟨by unfold okR; simp; omega, a4⟩)))
          · by_cases a5 : r = 46
            · exact .inr (.inr (.inr (.inr (.inl ⟨by unfold okR; simp; omega, a5⟩))))
            · have hf : okR r = false := by unfold okR; simp; omega
              rcases (show r < 48 ∨ (57 < r ∧ r < 97) ∨ 122 < r from by omega) with h | h | h
              · exact .inr (.inr (.inr (.inr (.inr (.inl ⟨hf, h, a3, a5⟩)))))
              · exact .inr (.inr (.inr (.inr (.inr (.inr (.inl ⟨hf, h.1, h.2, a4⟩))))))
              · exact .inr (.inr (.inr (.inr (.inr (.inr (.inr ⟨hf, h⟩))))))
  have e : ∀ b : Bool, b = false → Ending.returned (Value.bool b) = Ending.returned (Value.bool false) := by rintro b rfl; rfl
  rcases key with ⟨hk, h⟩ | ⟨hk, h⟩ | ⟨hk, rfl⟩ | ⟨hk, rfl⟩ | ⟨hk, rfl⟩ | ⟨hk, h1, h2, h3⟩ | ⟨hk, h1, h2, h3⟩ | ⟨hk, h⟩
  all_goals
    rw [hk]
    clear hk
    go_enter Tryz.func59, Tryz.ntmps59
    go_wp2
    go_ret
    refine ⟨?_, rfl⟩
  · rfl
  · rfl
  · rfl
  · rfl
  · rfl
  · refine e _ ?_; simp; omega
  · refine e _ ?_; simp; omega
  · refine e _ ?_; simp; omega
set_option maxHeartbeats 1000000 in
theorem not_any (r : Int) (w : World) (B : Nat) (hb : w.cell? ⟨B, 0, none⟩ = some (.func (.func 59) #[] #[])) : Calls Tryz.prog 61 #[.int .i32 r, .pointer (some ⟨B, 0, none⟩)] w fun e w' => e = .returned (.bool (!okR r)) ∧ w = w' := by
  go_enter Tryz.func61, Tryz.ntmps61
  go_wp2_with fail
  refine (ok_any r w).mono ?_
  rintro e w' ⟨rfl, rfl⟩
  go_wp2
  go_ret
  exact ⟨rfl, rfl⟩
/-- What the search for a byte that is none of a name's says. -/
def BadTo (l : List UInt8) (w : World) (e : Ending) (w' : World) : Prop := ∃ n : Int, e = .returned (.int .i64 n) ∧ (0 ≤ n ↔ l.all okB = false) ∧ -1 ≤ n ∧ Below w.heap.size w w'
theorem all_take {l : List UInt8} {k : Nat} {c : UInt8} (h : (l.take k).all okB = true) (hc : l[k]? = some c) (hk : okB c = true) : (l.take (k + 1)).all okB = true := by
  rw [List.take_add_one, hc, List.all_append, h]
  simp [hk]
theorem all_bad {l : List UInt8} {k : Nat} {c : UInt8} (hc : l[k]? = some c) (hk : okB c = false) : l.all okB = false := by
  cases h : l.all okB
  · rfl
  · have := List.all_eq_true.1 h c (List.mem_of_getElem? hc)
    rw [hk] at this; cases this
set_option maxHeartbeats 2000000 in
theorem idxf_any (s : ByteArray) (w : World) (B : Nat) (hb : w.cell? ⟨B, 0, none⟩ = some (.func (.func 59) #[] #[])) :
    Calls Tryz.prog 103 #[.string s, .func (.func 61) #[] #[.pointer (some ⟨B, 0, none⟩)], .bool true] w (BadTo s.data.toList w) := by
  have hB := cell_lt hb
  have HB := Lib.hid hb; clear hb
  go_enter Tryz.func103, Tryz.ntmps103
  go_wp2
  go_loopg [] s.size (fun gf wx => ∃ pos : Nat, pos ≤ s.size ∧ wx.heap[w.heap.size]? = some (.stringIter s pos) ∧ Hid (Below w.heap.size w wx) ∧ Hid ((s.data.toList.take pos).all okB = true) ∧ s.size ≤ pos + gf)
  case atStart => exact ⟨0, Nat.zero_le _, World.iter_heap w s 0, (Below.refl _ w).alloc (Nat.le_refl _) _, rfl, by omega⟩
  case round =>
    obtain ⟨pos, hps, hit, hbw, hall, hfu⟩ := hrel
    by_cases hlt : pos < s.size
    · obtain ⟨g', rfl⟩ : ∃ g', gk = g' + 1 := ⟨gk - 1, by omega⟩
      have hnx : ∀ ty, (Instr.next (.pointer (some ⟨w.heap.size, 0, none⟩)) true ty).run Tryz.prog wr = _ := fun ty => Lib.run_next_any_at wr w.heap.size s pos ty hit hlt
      have hwd := Lib.width_pos s pos
      obtain ⟨R, hR⟩ : ∃ R, (Utf8.decode s pos).1 = R := ⟨_, rfl⟩
      obtain ⟨K, hK⟩ : ∃ K, (Utf8.decode s pos).2 = K := ⟨_, rfl⟩
      have key : (okR (R : Int) = true ∧ pos + K ≤ s.size ∧ (s.data.toList.take (pos + K)).all okB = true) ∨ (okR (R : Int) = false ∧ s.data.toList.all okB = false) := by
        have hget : s.data.toList[pos]? = some (s[pos]'hlt) := by
          rw [List.getElem?_eq_getElem (by simp; exact hlt)]; rfl
        by_cases ha : (s[pos]'hlt).toNat < 128
        · have hd := decode_ascii s pos hlt ha
          rw [hd] at hR hK
          subst hR hK
          cases hb : okB (s[pos]'hlt)
          · exact .inr ⟨by rw [okR_byte, hb], all_bad hget hb⟩
          · exact .inl ⟨by rw [okR_byte, hb], by omega, all_take hall.out hget hb⟩
        · have h1 := (decode_high s pos hlt (by omega)).1
          rw [hR] at h1
          refine .inr ⟨okR_high _ (by omega), all_bad hget ?_⟩
          rw [← okR_byte]
          exact okR_high _ (by omega)
      rw [hR, hK] at hnx
      rw [hK] at hwd
      have hit2 := Lib.iterAt_heap wr w.heap.size s pos (pos + K) hit
      have hbw2 := Lib.below_iterAt hbw.out (k := w.heap.size) (Nat.le_refl _) s (pos + K)
      obtain ⟨W, hWd⟩ : ∃ W, wr.iterAt w.heap.size s (pos + K) = W := ⟨_, rfl⟩
      rw [hWd] at hnx hit2 hbw2
      have hbW : W.cell? ⟨B, 0, none⟩ = some (.func (.func 59) #[] #[]) := by rw [hbw2.cell hB]; exact HB.out
      have cS := not_any (R : Int) W B hbW
      have HW2 := Lib.hid hbw2
      clear hbw2 hWd
      rcases key with ⟨hk, hk2, hk3⟩ | ⟨hk, hk2⟩
      · rw [hk] at cS
        have CS := Lib.hid cS; have HK3 := Lib.hid hk3; clear cS hk3 hk
        go_wp2_with fail
        refine CS.out.mono ?_
        rintro e W' ⟨rfl, rfl⟩
        go_wp2
        go_roundg g'
        case measure => omega
        case rel => exact ⟨pos + K, hk2, hit2, HW2, HK3, by omega⟩
      · rw [hk] at cS
        have CS := Lib.hid cS; have HK2 := Lib.hid hk2; clear cS hk2 hk
        go_wp2_with fail
        refine CS.out.mono ?_
        rintro e W' ⟨rfl, rfl⟩
        go_wp2
        go_ret
        exact ⟨pos, rfl, ⟨fun _ => HK2.out, fun _ => by omega⟩, by omega, HW2.out⟩
    · have hnx : ∀ ty, (Instr.next (.pointer (some ⟨w.heap.size, 0, none⟩)) true ty).run Tryz.prog wr = _ := fun ty => Lib.run_next_end_at wr w.heap.size s pos ty hit hlt
      have hp : s.data.toList.all okB = true := by
        have := hall.out
        rwa [List.take_of_length_le (by simp; omega)] at this
      have HP := Lib.hid hp
      clear hp
      go_wp2
      go_ret
      exact ⟨-1, rfl, ⟨fun h => by omega, fun h => by rw [HP.out] at h; cases h⟩, by omega, hbw.out⟩
set_option maxHeartbeats 1000000 in
theorem idxF_any (s : ByteArray) (w : World) (B : Nat) (hb : w.cell? ⟨B, 0, none⟩ = some (.func (.func 59) #[] #[])) :
    Calls Tryz.prog 79 #[.string s, .func (.func 61) #[] #[.pointer (some ⟨B, 0, none⟩)]] w (BadTo s.data.toList w) := by
  have HG := Lib.hid (idxf_any s w B hb); clear hb
  go_enter Tryz.func79, Tryz.ntmps79
  go_wp2_with fail
  refine HG.out.mono ?_
  rintro e w' ⟨n, rfl, h1, h2, h3⟩
  have H1 := Lib.hid h1; have H3 := Lib.hid h3; clear h1 h3
  go_wp2
  go_ret
  exact ⟨n, rfl, H1.out, h2, H3.out⟩
set_option maxHeartbeats 1000000 in
theorem contF_any (s : ByteArray) (w : World) (B : Nat) (hb : w.cell? ⟨B, 0, none⟩ = some (.func (.func 59) #[] #[])) :
    Calls Tryz.prog 60 #[.string s, .func (.func 61) #[] #[.pointer (some ⟨B, 0, none⟩)]] w (fun e w' => e = .returned (.bool (!(s.data.toList.all okB))) ∧ Below w.heap.size w w') := by
  have HG := Lib.hid (idxF_any s w B hb); clear hb
  go_enter Tryz.func60, Tryz.ntmps60
  go_wp2_with fail
  refine HG.out.mono ?_
  rintro e w' ⟨n, rfl, h1, h2, h3⟩
  have H1 := Lib.hid h1; have H3 := Lib.hid h3; clear h1 h3
  cases hc : s.data.toList.all okB
  · have hn : 0 ≤ n := H1.out.2 hc
    have HC := Lib.hid hc
    clear hc
    go_wp2
    go_ret
    refine ⟨?_, H3.out⟩
    rw [HC.out]; rfl
  · have hn : n < 0 := by
      rcases Int.lt_or_le n 0 with h | h
      · exact h
      · have := H1.out.1 h; rw [hc] at this; cases this
    have HC := Lib.hid hc
    clear hc
    obtain rfl : n = -1 := by omega
    go_wp2
    go_ret
    refine ⟨?_, H3.out⟩
    rw [HC.out]; rfl
set_option maxHeartbeats 1000000 in
theorem name_any (s : ByteArray) (w : World) (hs : s.size ≤ 1000000) : Calls Tryz.prog 38 #[.string s] w (fun e w' => e = .returned (.bool (nameB s.data.toList)) ∧ Below w.heap.size w w') := by
  have hB : Below w.heap.size w (w.alloc (.cells #[.func (.func 59) #[] #[]] 97)) := (Below.refl _ w).alloc (Nat.le_refl _) _
  by_cases h0 : s.data.toList = []
  · have e0 : s = ⟨#[]⟩ := by
      cases s with | mk a => cases a with | mk t => simp_all
    subst e0
    rw [show nameB (ByteArray.mk #[]).data.toList = false from rfl]
    have HB := Lib.hid hB
    clear h0 hs hB
    go_enter Tryz.func38, Tryz.ntmps38
    go_wp2
    go_ret
    exact ⟨rfl, HB.out⟩
  · have hne : s.toList.isEmpty = false := by rw [ByteArray.toList_eq]; simpa using h0
    have hsl : s.size = s.data.toList.length := by simp
    have hpos : 0 < s.size := by rw [hsl]; exact List.length_pos_iff.2 h0
    have hhd : s.data.toList.head? = some (s[0]'hpos) := by
      rw [List.head?_eq_getElem?, List.getElem?_eq_getElem (by simp; exact hpos)]; rfl
    by_cases h1 : s.size ≤ 32
    · by_cases h46 : s[0]'hpos = 46
      · have hn : nameB s.data.toList = false := by
          unfold nameB
          rw [hhd, h46]; simp
        rw [hn]
        have h46' : ((s[0]'hpos).toNat : Int) = 46 := by rw [h46]; rfl
        have HB := Lib.hid hB
        clear hn h0 hhd h46 hsl hB
        go_enter Tryz.func38, Tryz.ntmps38
        go_wp2
        go_ret
        exact ⟨rfl, HB.out⟩
      · have hn : nameB s.data.toList = s.data.toList.all okB := by
          unfold nameB
          rw [hhd]
          have e1 : s.data.toList.isEmpty = false := by simpa using h0
          have e2 : decide (s.data.toList.length ≤ 32) = true := by rw [← hsl]; simpa using h1
          have e3 : (some (s[0]'hpos) != some 46) = true := by simpa using h46
          rw [e1, e2, e3]; rfl
        rw [hn]
        have h46' : ¬ ((s[0]'hpos).toNat : Int) = 46 := by
          intro h
          apply h46
          rw [← UInt8.toNat_inj]
          show _ = 46
          omega
        have h46n : (((s[0]'hpos).toNat : Int) != 46) = true := by simpa using h46'
        have hG := (contF_any s (w.alloc (.cells #[.func (.func 59) #[] #[]] 97)) w.heap.size (by rw [cell_of_heap (heap_alloc_new w _)]; rfl))
        obtain ⟨b, hb⟩ : ∃ b, b = s.data.toList.all okB := ⟨_, rfl⟩
        rw [← hb] at hG ⊢
        have HG := Lib.hid hG
        clear hb hG
        have HB := Lib.hid hB
        clear hn h0 hhd h46 hsl hB
        go_enter Tryz.func38, Tryz.ntmps38
        go_wp2_with fail
        refine HG.out.mono ?_
        rintro e w' ⟨rfl, h2⟩
        have HB2 := Lib.hid (HB.out.trans (h2.mono (by simp)))
        clear h2
        cases b
        · go_wp2
          go_ret
          exact ⟨rfl, HB2.out⟩
        · go_wp2
          go_ret
          exact ⟨rfl, HB2.out⟩
    · have hn : nameB s.data.toList = false := by
        unfold nameB; rw [← hsl]; simp [h1]
      rw [hn]
      have HB := Lib.hid hB
      clear hn h0 hhd hsl hB
      go_enter Tryz.func38, Tryz.ntmps38
      go_wp2
      go_ret
      exact ⟨rfl, HB.out⟩
end Go.Proofs.YtjcimajkjnjdpabGreatDoor

/- DERIVED. The walks of path.Good, path.Parts. -/
namespace Go.Proofs.YtjcimajkjnjdpabGreatDoor
open Go.RowKit
set_option linter.unusedVariables false

set_option maxHeartbeats 1000000 in
theorem notName_any (s : ByteArray) (w : World) (hs : s.size ≤ 1000000) : Calls Tryz.prog 37 #[.string s] w (fun e w' => e = .returned (.bool (!(nameB s.data.toList))) ∧ Below w.heap.size w w') := by
  have hG := name_any s w hs
  obtain ⟨b, hb⟩ : ∃ b, b = nameB s.data.toList := ⟨_, rfl⟩
  rw [← hb] at hG ⊢
  have HG := Lib.hid hG
  clear hG hb
  go_enter Tryz.func37, Tryz.ntmps37
  go_wp2_with fail
  refine HG.out.mono ?_
  rintro e w' ⟨rfl, h2⟩
  have H2 := Lib.hid h2; clear h2
  go_wp2
  go_ret
  exact ⟨rfl, H2.out⟩
def NoTo (ps : List (List UInt8)) (w : World) (e : Ending) (w' : World) : Prop := ∃ n : Int, e = .returned (.int .i64 n) ∧ (0 ≤ n ↔ ps.all nameB = false) ∧ -1 ≤ n ∧ Below w.heap.size w w'
theorem all_next {ps : List (List UInt8)} {k : Nat} {c : List UInt8} (h : (ps.take k).all nameB = true) (hc : ps[k]? = some c) (hk : nameB c = true) : (ps.take (k + 1)).all nameB = true := by
  rw [List.take_add_one, hc, List.all_append, h]
  simp [hk]
theorem all_fails {ps : List (List UInt8)} {k : Nat} {c : List UInt8} (hc : ps[k]? = some c) (hk : nameB c = false) : ps.all nameB = false := by
  cases h : ps.all nameB
  · rfl
  · have := List.all_eq_true.1 h c (List.mem_of_getElem? hc)
    rw [hk] at this; cases this
set_option maxHeartbeats 1000000 in
theorem sidx_any (a : Option Addr) (c : Nat) (ps : List (List UInt8)) (w : World) (hr : RdStrs w a ps) (hn : ps.length ≤ 1000000) (hps : ∀ p ∈ ps, p.length ≤ 1000000) :
    Calls Tryz.prog 58 #[.slice a ps.length c, .func (.func 37) #[] #[]] w (NoTo ps w) := by
  obtain ⟨n, hnn⟩ : ∃ n, n = ps.length := ⟨_, rfl⟩
  rw [← hnn] at hn ⊢
  have HR := Lib.hid hr; have HN := Lib.hid hnn; have HP := Lib.hid hps
  clear hr hnn hps
  go_enter Tryz.func58, Tryz.ntmps58
  go_wp2
  go_loopw [8] (fun x wr => ∃ k : Nat, k ≤ n ∧ x = .int .i64 k ∧ Hid (Below w.heap.size w wr) ∧ Hid ((ps.take k).all nameB = true)) (fun x _ => n - (intOf x).toNat)
  case atStart => exact ⟨0, Nat.zero_le _, rfl, Below.refl _ w, rfl⟩
  case round =>
    obtain ⟨k, hk, rfl, hbw, hall⟩ := hrel
    by_cases hlt : k < n
    · obtain ⟨p, hp⟩ : ∃ p, ps[k]? = some p := ⟨_, List.getElem?_eq_getElem (by rw [← HN.out]; exact hlt)⟩
      obtain ⟨B, o, rfl, hcs⟩ := HR.out.below hbw.out (fun e => by rw [e] at hp; cases hp)
      have hc0 := hcs k p hp
      have hpl := HP.out p (List.mem_of_getElem? hp)
      have hG := notName_any ⟨p.toArray⟩ wr (by rw [str_size]; exact hpl)
      rw [show (⟨p.toArray⟩ : ByteArray).data.toList = p from rfl] at hG
      obtain ⟨S, hS⟩ : ∃ S : ByteArray, S = ⟨p.toArray⟩ := ⟨_, rfl⟩
      rw [← hS] at hG hc0
      have hPN : nameB p = true ∨ nameB p = false := by cases nameB p <;> simp
      have HP0 := Lib.hid hp
      clear hcs hp hS hpl
      rcases hPN with hb | hb
      · rw [hb] at hG
        have HG := Lib.hid hG; have HB := Lib.hid hb
        clear hG hb
        go_wp2_with fail
        refine HG.out.mono ?_
        rintro e w' ⟨rfl, h2⟩
        have H2 := Lib.hid (hbw.out.trans (h2.mono hbw.out.size)); clear h2
        go_wp2
        go_roundw
        case rel => exact ⟨k + 1, hlt, by go_num, H2, all_next hall.out HP0.out HB.out⟩
        case measure => simp [intOf]; omega
      · rw [hb] at hG
        have HG := Lib.hid hG; have HB := Lib.hid hb
        clear hG hb
        go_wp2_with fail
        refine HG.out.mono ?_
        rintro e w' ⟨rfl, h2⟩
        have H2 := Lib.hid (hbw.out.trans (h2.mono hbw.out.size)); clear h2
        go_wp2
        go_ret
        exact ⟨k, rfl, ⟨fun _ => all_fails HP0.out HB.out, fun _ => by omega⟩, by omega, H2.out⟩
    · have ha : ps.all nameB = true := by
        have := hall.out
        rwa [List.take_of_length_le (by rw [← HN.out]; omega)] at this
      have HA := Lib.hid ha; clear ha
      go_wp2
      go_ret
      exact ⟨-1, rfl, ⟨fun h => by omega, fun h => by rw [HA.out] at h; cases h⟩, by omega, hbw.out⟩
set_option maxHeartbeats 1000000 in
theorem scont_any (a : Option Addr) (c : Nat) (ps : List (List UInt8)) (w : World) (hr : RdStrs w a ps) (hn : ps.length ≤ 1000000) (hps : ∀ p ∈ ps, p.length ≤ 1000000) :
    Calls Tryz.prog 36 #[.slice a ps.length c, .func (.func 37) #[] #[]] w (fun e w' => e = .returned (.bool (!(ps.all nameB))) ∧ Below w.heap.size w w') := by
  have hG := sidx_any a c ps w hr hn hps
  obtain ⟨n, hnn⟩ : ∃ n, n = ps.length := ⟨_, rfl⟩
  rw [← hnn] at hG ⊢
  have HG := Lib.hid hG; clear hG hr hn hps hnn
  go_enter Tryz.func36, Tryz.ntmps36
  go_wp2_with fail
  refine HG.out.mono ?_
  rintro e w' ⟨n, rfl, h1, h2, h3⟩
  have H1 := Lib.hid h1; have H3 := Lib.hid h3; clear h1 h3
  cases hc : ps.all nameB
  · have hn : 0 ≤ n := H1.out.2 hc
    have HC := Lib.hid hc
    clear hc
    go_wp2
    go_ret
    refine ⟨?_, H3.out⟩
    rw [HC.out]; rfl
  · have hn : n < 0 := by
      rcases Int.lt_or_le n 0 with h | h
      · exact h
      · have := H1.out.1 h; rw [hc] at this; cases this
    have HC := Lib.hid hc
    clear hc
    obtain rfl : n = -1 := by omega
    go_wp2
    go_ret
    refine ⟨?_, H3.out⟩
    rw [HC.out]; rfl
theorem pieces_le (l : List UInt8) : ∀ p ∈ pieces l, p.length ≤ l.length := by
  induction l with
  | nil => intro p hp; simp [pieces] at hp; simp [hp]
  | cons c r ih =>
    intro p hp
    by_cases h : c = 47
    · subst h
      rw [pieces_slash] at hp
      rcases List.mem_cons.1 hp with rfl | hp
      · simp
      · have := ih p hp; simp; omega
    · rw [pieces_other c r h] at hp
      cases hq : pieces r with
      | nil => exact absurd hq (pieces_ne r)
      | cons q qs =>
        rw [hq] at hp
        rcases List.mem_cons.1 hp with rfl | hp
        · have := ih q (by rw [hq]; simp); simp; omega
        · have := ih p (by rw [hq]; simp [hp]); simp; omega
theorem pieces_len (l : List UInt8) : (pieces l).length ≤ l.length + 1 := by
  rw [pieces_count]
  have := List.count_le_length (a := (47 : UInt8)) (l := l)
  omega
set_option maxHeartbeats 1000000 in
theorem good_any (s : ByteArray) (w : World) (hs : s.size ≤ 900000) : Calls Tryz.prog 14 #[.string s] w (fun e w' => e = .returned (.bool (goodB s.data.toList)) ∧ Below w.heap.size w w') := by
  obtain ⟨ps, hps⟩ : ∃ ps, ps = pieces s.data.toList := ⟨_, rfl⟩
  have hsl : s.size = s.data.toList.length := by simp
  have hple : ∀ p ∈ ps, p.length ≤ 1000000 := fun p hp => by have := pieces_le s.data.toList p (by rw [← hps]; exact hp); omega
  have hpn : ps.length ≤ 1000000 := by have := pieces_len s.data.toList; rw [hps]; omega
  have hgd : goodB s.data.toList = (decide (s.size ≤ 128) && decide (ps.length ≤ 8) && ps.all nameB) := by unfold goodB; rw [hps, hsl]
  have hG := split_any s w (by omega)
  rw [hgd]
  rw [← hps] at hG
  obtain ⟨b, hb⟩ : ∃ b, b = ps.all nameB := ⟨_, rfl⟩
  have hG2 := fun (a : Option Addr) (c : Nat) (w1 : World) (hr : RdStrs w1 a ps) => scont_any a c ps w1 hr hpn hple
  rw [← hb] at hG2 ⊢
  have HG := Lib.hid hG; have HG2 := Lib.hid hG2
  obtain ⟨n, hnn⟩ : ∃ n, n = ps.length := ⟨_, rfl⟩
  have HN := Lib.hid hnn
  rw [← hnn]
  obtain ⟨R, hR⟩ : ∃ R, R = (decide (s.size ≤ 128) && decide (n ≤ 8) && b) := ⟨_, rfl⟩
  rw [← hR]
  have HR := Lib.hid hR
  clear hR hG hG2 hgd hsl hple hps hb hpn hnn
  go_enter Tryz.func14, Tryz.ntmps14
  go_wp2_with fail
  refine HG.out.mono ?_
  rintro e w1 ⟨a, c, rfl, h1, h2⟩
  have hG2 := HG2.out a c w1 h1
  have H2 := Lib.hid h2
  rw [← HN.out] at hG2 ⊢
  have HG3 := Lib.hid hG2
  clear hG2 h1 h2
  by_cases k1 : s.size ≤ 128
  · by_cases k2 : n ≤ 8
    · go_wp2_with fail
      refine HG3.out.mono ?_
      rintro e w' ⟨rfl, h3⟩
      have H3 := Lib.hid (H2.out.trans (h3.mono H2.out.size)); clear h3
      have e1 : R = b := by rw [HR.out]; simp [k1, k2]
      have HE := Lib.hid e1; clear e1
      cases b
      · go_wp2
        go_ret
        refine ⟨?_, H3.out⟩
        rw [HE.out]; rfl
      · go_wp2
        go_ret
        refine ⟨?_, H3.out⟩
        rw [HE.out]; rfl
    · have e1 : R = false := by rw [HR.out]; simp [k1, k2]
      have HE := Lib.hid e1; clear e1
      go_wp2
      go_ret
      refine ⟨?_, H2.out⟩
      rw [HE.out]; rfl
  · have e1 : R = false := by rw [HR.out]; simp [k1]
    have HE := Lib.hid e1; clear e1
    go_wp2
    go_ret
    refine ⟨?_, H2.out⟩
    rw [HE.out]; rfl
/-- The parts of a path; none of what is none. -/
def partsP (l : List UInt8) : List (List UInt8) := if goodB l then pieces l else []
end Go.Proofs.YtjcimajkjnjdpabGreatDoor

/- DERIVED. The walks of path.Under, path.Join. -/
namespace Go.Proofs.YtjcimajkjnjdpabGreatDoor
open Go.RowKit
set_option linter.unusedVariables false

/-- What the cut of a text off another one's front says. -/
def cutP (s p : List UInt8) : List UInt8 × Bool := if s.take p.length = p then (s.drop p.length, true) else (s, false)
def preB (s p : List UInt8) : Bool := decide (s.take p.length = p)
set_option maxHeartbeats 1000000 in
theorem pre_any (S P : ByteArray) (w : World) (hs : S.size ≤ 1000000) (hp : P.size ≤ 1000000) : Calls Tryz.prog 69 #[.string S, .string P] w (fun e w' => e = .returned (.bool (preB S.data.toList P.data.toList)) ∧ w = w') := by
  obtain ⟨R, hR⟩ : ∃ R, R = preB S.data.toList P.data.toList := ⟨_, rfl⟩
  rw [← hR]
  have hS : S.size = S.data.toList.length := by simp
  have hP : P.size = P.data.toList.length := by simp
  by_cases hle : P.size ≤ S.size
  · have key : ((S.extract 0 P.size).toList == P.toList) = R := by
      rw [hR]
      unfold preB
      rw [Lib.toList_data, Lib.toList_data, Lib.extract_data, Bool.eq_iff_iff, beq_iff_eq, decide_eq_true_iff, ← hP]
      simp
    have HR := Lib.hid hR
    clear hR hS hP
    go_enter Tryz.func69, Tryz.ntmps69
    cases R
    · go_wp2
      go_ret
      exact ⟨rfl, rfl⟩
    · go_wp2
      go_ret
      exact ⟨rfl, rfl⟩
  · have e0 : R = false := by
      rw [hR]
      unfold preB
      rw [decide_eq_false_iff_not]
      intro h
      have := congrArg List.length h
      simp at this
      omega
    subst e0
    clear hR hS hP
    go_enter Tryz.func69, Tryz.ntmps69
    go_wp2
    go_ret
    exact ⟨rfl, rfl⟩
theorem ext_list (l : ByteArray) : (⟨l.data.toList.toArray⟩ : ByteArray) = l := by cases l; simp
theorem strV_of {B : ByteArray} {l : List UInt8} (h : B.data.toList = l) : Value.string B = strV l := by subst h; unfold strV; rw [ext_list]
theorem ext_drop (S : ByteArray) (k : Nat) : (S.extract k S.size).data.toList = S.data.toList.drop k := by
  rw [Lib.extract_data]; exact List.take_of_length_le (by rw [List.length_drop]; simp)
theorem ext_take (S : ByteArray) (k : Nat) : (S.extract 0 k).data.toList = S.data.toList.take k := by rw [Lib.extract_data]; simp
set_option maxHeartbeats 1000000 in
theorem cutl_any (S P : ByteArray) (w : World) (hs : S.size ≤ 1000000) (hp : P.size ≤ 1000000) : Calls Tryz.prog 83 #[.string S, .string P] w (fun e w' => e = .returned (.tuple #[strV (cutP S.data.toList P.data.toList).1, .bool (cutP S.data.toList P.data.toList).2]) ∧ w = w') := by
  have hG := pre_any S P w hs hp
  have hP : P.size = P.data.toList.length := by simp
  by_cases h : S.data.toList.take P.data.toList.length = P.data.toList
  · have e1 : preB S.data.toList P.data.toList = true := by unfold preB; simpa using h
    have e2 : cutP S.data.toList P.data.toList = (S.data.toList.drop P.data.toList.length, true) := by unfold cutP; rw [if_pos h]
    have hle : P.size ≤ S.size := by
      have := congrArg List.length h
      simp at this
      omega
    have e3 := strV_of (ext_drop S P.size)
    rw [hP] at e3
    rw [e2]
    dsimp only
    rw [← e3, ← hP]
    rw [e1] at hG
    have HG := Lib.hid hG
    clear hG e1 e2 e3 h hP
    go_enter Tryz.func83, Tryz.ntmps83
    go_wp2_with fail
    refine HG.out.mono ?_
    rintro e w' ⟨rfl, rfl⟩
    go_wp2
    go_ret2
    exact ⟨rfl, rfl⟩
  · have e1 : preB S.data.toList P.data.toList = false := by unfold preB; simpa using h
    have e2 : cutP S.data.toList P.data.toList = (S.data.toList, false) := by unfold cutP; rw [if_neg h]
    rw [e2]
    dsimp only
    rw [← strV_of (B := S) rfl]
    rw [e1] at hG
    have HG := Lib.hid hG
    clear hG e1 e2 h hP
    go_enter Tryz.func83, Tryz.ntmps83
    go_wp2_with fail
    refine HG.out.mono ?_
    rintro e w' ⟨rfl, rfl⟩
    go_wp2
    go_ret2
    exact ⟨rfl, rfl⟩
set_option maxHeartbeats 1000000 in
theorem cut_any (S P : ByteArray) (w : World) (hs : S.size ≤ 1000000) (hp : P.size ≤ 1000000) : Calls Tryz.prog 64 #[.string S, .string P] w (fun e w' => e = .returned (.tuple #[strV (cutP S.data.toList P.data.toList).1, .bool (cutP S.data.toList P.data.toList).2]) ∧ w = w') := by
  have hG := cutl_any S P w hs hp
  obtain ⟨q, hq⟩ : ∃ q, q = cutP S.data.toList P.data.toList := ⟨_, rfl⟩
  rw [← hq] at hG ⊢
  obtain ⟨l, b⟩ := q
  dsimp only at hG ⊢
  unfold strV at hG ⊢
  obtain ⟨X, hX⟩ : ∃ X : ByteArray, X = ⟨l.toArray⟩ := ⟨_, rfl⟩
  rw [← hX] at hG ⊢
  have HG := Lib.hid hG
  clear hG hq hX
  go_enter Tryz.func64, Tryz.ntmps64
  go_wp2_with fail
  refine HG.out.mono ?_
  rintro e w' ⟨rfl, rfl⟩
  go_wp2
  go_ret2
  exact ⟨rfl, rfl⟩
theorem empty_of {D : ByteArray} (h : D.toList.isEmpty = true) : D = ⟨#[]⟩ := by
  rw [Lib.toList_data] at h
  cases D with | mk a => cases a with | mk t => simp at h; rw [h]
theorem nonempty_of {D : ByteArray} (h : D.toList.isEmpty = false) : D.data.toList ≠ [] := by
  rw [Lib.toList_data] at h
  intro e; rw [e] at h; cases h
set_option maxHeartbeats 2000000 in
theorem under_any (D S : ByteArray) (w : World) (hd : D.size ≤ 400000) (hs : S.size ≤ 400000) : Calls Tryz.prog 40 #[.string D, .string S] w (fun e w' => e = .returned (.tuple #[strV (underP D.data.toList S.data.toList).1, .bool (underP D.data.toList S.data.toList).2]) ∧ Below w.heap.size w w') := by
  have hGs := good_any S
  have hGd := good_any D
  obtain ⟨gs, hgs⟩ : ∃ gs, gs = goodB S.data.toList := ⟨_, rfl⟩
  obtain ⟨gd, hgd⟩ : ∃ gd, gd = goodB D.data.toList := ⟨_, rfl⟩
  have hU : underP D.data.toList S.data.toList = (if (gs && (D.data.toList.isEmpty || gd)) = true then (if D.data.toList = [] then (S.data.toList, true) else if S.data.toList.take (D.data.toList.length + 1) = D.data.toList ++ [47] then (S.data.toList.drop (D.data.toList.length + 1), true) else ([], false)) else ([], false)) := by
    rw [hgs, hgd]; rfl
  rw [← hgs] at hGs
  rw [← hgd] at hGd
  have HS := Lib.hid (fun W => hGs W (by omega)); have HD := Lib.hid (fun W => hGd W (by omega))
  rw [hU]
  clear hGs hGd hgs hgd hU
  cases gs
  · rw [if_neg (by simp)]
    dsimp only
    unfold strV
    go_enter Tryz.func40, Tryz.ntmps40
    go_wp2_with fail
    refine (HS.out w).mono ?_
    rintro e w1 ⟨rfl, h1⟩
    have H1 := Lib.hid h1; clear h1
    go_wp2
    go_ret2
    exact ⟨rfl, H1.out⟩
  · cases hD : D.toList.isEmpty
    · have hne := nonempty_of hD
      have hne' : D.data.toList.isEmpty = false := by rw [← Lib.toList_data]; exact hD
      cases gd
      · rw [if_neg (by simp [hne'])]
        dsimp only
        unfold strV
        clear hne hne'
        go_enter Tryz.func40, Tryz.ntmps40
        go_wp2_with fail
        refine (HS.out w).mono ?_
        rintro e w1 ⟨rfl, h1⟩
        have H1 := Lib.hid h1; clear h1
        go_wp2_with fail
        refine (HD.out w1).mono ?_
        rintro e w2 ⟨rfl, h2⟩
        have H2 := Lib.hid (H1.out.trans (h2.mono H1.out.size)); clear h2
        go_wp2
        go_ret2
        exact ⟨rfl, H2.out⟩
      · rw [if_pos (by simp), if_neg hne]
        have hC := fun W => cut_any S (D ++ ⟨#[47]⟩) W (by omega) (by rw [ByteArray.size_append]; show D.size + 1 ≤ _; omega)
        have e1 : (D ++ ⟨#[47]⟩ : ByteArray).data.toList = D.data.toList ++ [47] := by simp
        rw [e1] at hC
        unfold cutP at hC
        rw [List.length_append] at hC
        have e2 : D.data.toList.length + ([47] : List UInt8).length = D.data.toList.length + 1 := rfl
        rw [e2] at hC
        by_cases hc : S.data.toList.take (D.data.toList.length + 1) = D.data.toList ++ [47]
        · rw [if_pos hc] at hC
          rw [if_pos hc]
          dsimp only at hC ⊢
          unfold strV at hC ⊢
          obtain ⟨X, hX⟩ : ∃ X : ByteArray, X = ⟨(S.data.toList.drop (D.data.toList.length + 1)).toArray⟩ := ⟨_, rfl⟩
          rw [← hX] at hC ⊢
          have HC := Lib.hid hC
          clear hC hX hc e1 e2 hne hne'
          go_enter Tryz.func40, Tryz.ntmps40
          go_wp2_with fail
          refine (HS.out w).mono ?_
          rintro e w1 ⟨rfl, h1⟩
          have H1 := Lib.hid h1; clear h1
          go_wp2_with fail
          refine (HD.out w1).mono ?_
          rintro e w2 ⟨rfl, h2⟩
          have H2 := Lib.hid (H1.out.trans (h2.mono H1.out.size)); clear h2
          go_wp2_with fail
          refine (HC.out w2).mono ?_
          rintro e w3 ⟨rfl, rfl⟩
          go_wp2
          go_ret2
          exact ⟨rfl, H2.out⟩
        · rw [if_neg hc] at hC
          rw [if_neg hc]
          dsimp only at hC ⊢
          unfold strV at hC ⊢
          obtain ⟨X, hX⟩ : ∃ X : ByteArray, X = ⟨S.data.toList.toArray⟩ := ⟨_, rfl⟩
          rw [← hX] at hC
          have HC := Lib.hid hC
          clear hC hX hc e1 e2 hne hne'
          go_enter Tryz.func40, Tryz.ntmps40
          go_wp2_with fail
          refine (HS.out w).mono ?_
          rintro e w1 ⟨rfl, h1⟩
          have H1 := Lib.hid h1; clear h1
          go_wp2_with fail
          refine (HD.out w1).mono ?_
          rintro e w2 ⟨rfl, h2⟩
          have H2 := Lib.hid (H1.out.trans (h2.mono H1.out.size)); clear h2
          go_wp2_with fail
          refine (HC.out w2).mono ?_
          rintro e w3 ⟨rfl, rfl⟩
          go_wp2
          go_ret2
          exact ⟨rfl, H2.out⟩
    · obtain rfl := empty_of hD
      rw [if_pos (by simp), if_pos rfl]
      dsimp only
      rw [← strV_of (B := S) rfl]
      clear hD
      go_enter Tryz.func40, Tryz.ntmps40
      go_wp2_with fail
      refine (HS.out w).mono ?_
      rintro e w1 ⟨rfl, h1⟩
      have H1 := Lib.hid h1; clear h1
      go_wp2
      go_ret2
      exact ⟨rfl, H1.out⟩
set_option maxHeartbeats 2000000 in
theorem join_any (D S : ByteArray) (w : World) (hd : D.size ≤ 400000) (hs : S.size ≤ 400000) : Calls Tryz.prog 41 #[.string D, .string S] w (fun e w' => e = .returned (.tuple #[strV (joinP D.data.toList S.data.toList).1, .int .i64 (joinP D.data.toList S.data.toList).2]) ∧ Below w.heap.size w w') := by
  have hGs := good_any S
  cases hD : D.toList.isEmpty
  · have hne := nonempty_of hD
    have hne' : D.data.toList.isEmpty = false := by rw [← Lib.toList_data]; exact hD
    have hGd := good_any D
    have hGo := good_any (D ++ ⟨#[47]⟩ ++ S)
    have e1 : (D ++ ⟨#[47]⟩ ++ S : ByteArray).data.toList = D.data.toList ++ 47 :: S.data.toList := by simp
    have hz : (D ++ ⟨#[47]⟩ ++ S : ByteArray).size ≤ 900000 := by
      rw [ByteArray.size_append, ByteArray.size_append]; show D.size + 1 + S.size ≤ _; omega
    rw [e1] at hGo
    have e3 := strV_of e1
    obtain ⟨gs, hgs⟩ : ∃ gs, gs = goodB S.data.toList := ⟨_, rfl⟩
    obtain ⟨gd, hgd⟩ : ∃ gd, gd = goodB D.data.toList := ⟨_, rfl⟩
    obtain ⟨go, hgo⟩ : ∃ go, go = goodB (D.data.toList ++ 47 :: S.data.toList) := ⟨_, rfl⟩
    have hJ : joinP D.data.toList S.data.toList = (if (gd && gs && go) = true then (D.data.toList ++ 47 :: S.data.toList, 0) else ([], 10)) := by
      unfold joinP placeB putBehind
      rw [if_neg hne, ← hgs, ← hgd, ← hgo, hne']; rfl
    rw [← hgs] at hGs
    rw [← hgd] at hGd
    rw [← hgo] at hGo
    have HS := Lib.hid (fun W => hGs W (by omega)); have HD := Lib.hid (fun W => hGd W (by omega)); have HO := Lib.hid (fun W => hGo W hz)
    rw [hJ]
    have hsz : D.size + 1 + S.size ≤ 900000 := by omega
    cases gd
    · rw [if_neg (by simp)]
      dsimp only
      unfold strV
      clear hGs hGd hGo hgs hgd hgo hJ e1 e3 hz hne hne'
      go_enter Tryz.func41, Tryz.ntmps41
      go_wp2_with fail
      refine (HD.out w).mono ?_
      rintro e w1 ⟨rfl, h1⟩
      have H1 := Lib.hid h1; clear h1
      go_wp2
      go_ret2
      exact ⟨rfl, H1.out⟩
    · cases gs
      · rw [if_neg (by simp)]
        dsimp only
        unfold strV
        clear hGs hGd hGo hgs hgd hgo hJ e1 e3 hz hne hne'
        go_enter Tryz.func41, Tryz.ntmps41
        go_wp2_with fail
        refine (HD.out w).mono ?_
        rintro e w1 ⟨rfl, h1⟩
        have H1 := Lib.hid h1; clear h1
        go_wp2_with fail
        refine (HS.out w1).mono ?_
        rintro e w2 ⟨rfl, h2⟩
        have H2 := Lib.hid (H1.out.trans (h2.mono H1.out.size)); clear h2
        go_wp2
        go_ret2
        exact ⟨rfl, H2.out⟩
      · cases go
        · rw [if_neg (by simp)]
          dsimp only
          unfold strV
          clear hGs hGd hGo hgs hgd hgo hJ e1 e3 hz hne hne'
          go_enter Tryz.func41, Tryz.ntmps41
          go_wp2_with fail
          refine (HD.out w).mono ?_
          rintro e w1 ⟨rfl, h1⟩
          have H1 := Lib.hid h1; clear h1
          go_wp2_with fail
          refine (HS.out w1).mono ?_
          rintro e w2 ⟨rfl, h2⟩
          have H2 := Lib.hid (H1.out.trans (h2.mono H1.out.size)); clear h2
          go_wp2_with fail
          refine (HO.out w2).mono ?_
          rintro e w3 ⟨rfl, h3⟩
          have H3 := Lib.hid (H2.out.trans (h3.mono H2.out.size)); clear h3
          go_wp2
          go_ret2
          exact ⟨rfl, H3.out⟩
        · rw [if_pos (by simp)]
          dsimp only
          rw [← e3]
          clear hGs hGd hGo hgs hgd hgo hJ e1 e3 hz hne hne'
          go_enter Tryz.func41, Tryz.ntmps41
          go_wp2_with fail
          refine (HD.out w).mono ?_
          rintro e w1 ⟨rfl, h1⟩
          have H1 := Lib.hid h1; clear h1
          go_wp2_with fail
          refine (HS.out w1).mono ?_
          rintro e w2 ⟨rfl, h2⟩
          have H2 := Lib.hid (H1.out.trans (h2.mono H1.out.size)); clear h2
          go_wp2_with fail
          refine (HO.out w2).mono ?_
          rintro e w3 ⟨rfl, h3⟩
          have H3 := Lib.hid (H2.out.trans (h3.mono H2.out.size)); clear h3
          go_wp2
          go_ret2
          exact ⟨rfl, H3.out⟩
  · obtain rfl := empty_of hD
    obtain ⟨gs, hgs⟩ : ∃ gs, gs = goodB S.data.toList := ⟨_, rfl⟩
    have hJ : joinP (ByteArray.mk #[]).data.toList S.data.toList = (if gs = true then (S.data.toList, 0) else ([], 10)) := by
      unfold joinP placeB putBehind
      rw [if_pos rfl, ← hgs]; cases gs <;> rfl
    rw [← hgs] at hGs
    rw [hJ]
    have HS := Lib.hid (fun W => hGs W (by omega))
    clear hGs hD hJ hgs
    cases gs
    · rw [if_neg (by simp)]
      dsimp only
      unfold strV
      go_enter Tryz.func41, Tryz.ntmps41
      go_wp2_with fail
      refine (HS.out w).mono ?_
      rintro e w1 ⟨rfl, h1⟩
      have H1 := Lib.hid h1; clear h1
      go_wp2
      go_ret2
      exact ⟨rfl, H1.out⟩
    · rw [if_pos rfl]
      dsimp only
      rw [← strV_of (B := S) rfl]
      go_enter Tryz.func41, Tryz.ntmps41
      go_wp2_with fail
      refine (HS.out w).mono ?_
      rintro e w1 ⟨rfl, h1⟩
      have H1 := Lib.hid h1; clear h1
      go_wp2_with fail
      refine (HS.out w1).mono ?_
      rintro e w2 ⟨rfl, h2⟩
      have H2 := Lib.hid (H1.out.trans (h2.mono H1.out.size)); clear h2
      go_wp2
      go_ret2
      exact ⟨rfl, H2.out⟩
end Go.Proofs.YtjcimajkjnjdpabGreatDoor
