/- DERIVED. The walk of strings.Split at a stroke. -/
import Derived.Test.YtjcimajkjnjdpaaDoorPathLib
import Derived.Lib.Strings
namespace Go.Proofs.YtjcimajkjnjdpaaDoor
open Go.RowKit
set_option linter.unusedVariables false

theorem index_hit : ∀ r : List UInt8, (47 : UInt8) ∈ r → ∃ m : Nat, Lib.indexByte r 47 = m ∧ m < r.length ∧ r = r.take m ++ 47 :: r.drop (m + 1) ∧ (47 : UInt8) ∉ r.take m
  | [], h => by cases h
  | c :: r, h => by
    by_cases hc : c = 47
    · subst hc
      exact ⟨0, by simp [Lib.indexByte], by simp, by simp, by simp⟩
    · have hr : (47 : UInt8) ∈ r := by
        rcases List.mem_cons.1 h with e | h
        · exact absurd e.symm hc
        · exact h
      obtain ⟨m, h1, h2, h3, h4⟩ := index_hit r hr
      refine ⟨m + 1, ?_, by simp; omega, ?_, ?_⟩
      · have hcb : (c == (47 : UInt8)) = false := by simpa using hc
        unfold Lib.indexByte
        rw [h1]
        simp [hc]
      · rw [List.take_succ_cons, List.cons_append, List.drop_succ_cons, ← h3]
      · rw [List.take_succ_cons]
        intro h'
        rcases List.mem_cons.1 h' with e | e
        · exact hc e.symm
        · exact h4 e
theorem pieces_hit {r : List UInt8} {m : Nat} (h3 : r = r.take m ++ 47 :: r.drop (m + 1)) (h4 : (47 : UInt8) ∉ r.take m) : pieces r = r.take m :: pieces (r.drop (m + 1)) := by
  have := pieces_first (r.take m) (r.drop (m + 1)) h4
  rwa [← h3] at this
theorem pieces_two {r : List UInt8} (h : 2 ≤ (pieces r).length) : (47 : UInt8) ∈ r := by
  rw [pieces_count] at h
  exact List.count_pos_iff.1 (by omega)
theorem pieces_one {r : List UInt8} (h : (pieces r).length = 1) : pieces r = [r] := by
  refine pieces_plain r (fun hm => ?_)
  have := List.count_pos_iff.2 hm
  rw [pieces_count] at h
  omega
theorem strV_data (B : ByteArray) : Value.string B = strV B.data.toList := rfl
def SplitTo (ps : List (List UInt8)) (w : World) (e : Ending) (w' : World) : Prop := ∃ a c, e = .returned (.slice a ps.length c) ∧ RdStrs w' a ps ∧ Below w.heap.size w w'
theorem rd_cells {w : World} {B : Nat} {C : Array Value} {T : TypeId} {ps : List (List UInt8)} (h : w.heap[B]? = some (.cells C T (0, 0))) (hc : ∀ (j : Nat) p, ps[j]? = some p → C[j]? = some (strV p)) : RdStrs w (some ⟨B, 0, none⟩) ps := by
  intro _
  refine ⟨B, 0, rfl, fun i l hi => ?_⟩
  rw [cell_of_heap h, Nat.zero_add]
  exact hc i l hi
set_option maxHeartbeats 1000000 in
theorem gen_any (S : ByteArray) (w : World) (hs : S.size ≤ 1000000) :
    Calls Tryd.prog 44 #[.string S, .string ⟨#[47]⟩, .int .i64 0, .int .i64 (-1)] w (SplitTo (pieces S.data.toList) w) := by
  obtain ⟨l, hl⟩ : ∃ l, l = S.data.toList := ⟨_, rfl⟩
  have hsl : S.size = l.length := by rw [hl]; simp
  obtain ⟨n, hn⟩ : ∃ n, n = l.count 47 := ⟨_, rfl⟩
  have hnl : n ≤ l.length := by rw [hn]; exact List.count_le_length
  have hpl : (pieces l).length = n + 1 := by rw [hn]; exact pieces_count l
  have hcnt := count_any S w
  rw [← hl, ← hn] at hcnt
  rw [← hl]
  obtain ⟨i9, hi, hz0, hz1, hz2⟩ := info_parts info9
  have hmk := fun W => run_make_rowN (P := Tryd.prog) 58 9 i9 _ Tryd.underlying58 hi hz0 .i64 .i64 (n + 1) (n + 1) (Nat.le_refl _) (by rw [hz2]; omega) (by omega) W
  have ec : ((n + 1 : Nat) : Int) = (n : Int) + 1 := by omega
  rw [ec] at hmk
  have hmin : min ((n : Int) + 1) ((S.size : Int) + 1) = (n : Int) + 1 := by omega
  obtain ⟨C0, hC0⟩ : ∃ C0, C0 = madeCells (Value.string ByteArray.empty).cells ((n + 1) * i9.size) := ⟨_, rfl⟩
  rw [← hC0] at hmk
  have hC0s : C0.size = n + 1 := by rw [hC0, hz1]; simp [madeCells]
  have HC := Lib.hid hcnt; have HL := Lib.hid hl; have HPL := Lib.hid hpl; have HC0 := Lib.hid hC0s
  have hsn : n ≤ 1000000 := by omega
  have hne1 : ([47] : List UInt8).isEmpty = false := rfl
  clear hcnt hl hpl hn hC0 hC0s hz0 hz1 hz2 hi ec hnl hsl
  go_enter Tryd.func44, Tryd.ntmps44
  go_wp2_with fail
  refine HC.out.mono ?_
  rintro e w' ⟨rfl, rfl⟩
  go_wp2_with fail
  go_loopw [0, 10] (fun x i wr => ∃ (k : Nat) (R : ByteArray) (C : Array Value), k ≤ n ∧ R.size ≤ S.size ∧ x = .string R ∧ i = .int .i64 k ∧ wr.heap[w.heap.size]? = some (.cells C 9 (0, 0)) ∧ C.size = n + 1 ∧ Hid ((pieces l).drop k = pieces R.data.toList) ∧ Hid (∀ (j : Nat) p, j < k → (pieces l)[j]? = some p → C[j]? = some (strV p)) ∧ Hid (Below w.heap.size w wr)) (fun _ i _ => n - (intOf i).toNat)
  case atStart => exact ⟨0, S, C0, Nat.zero_le _, Nat.le_refl _, rfl, rfl, heap_alloc_new w _, HC0.out, (by have := HL.out; rw [List.drop_zero, this]; exact rfl), (fun j p h => absurd h (Nat.not_lt_zero _)), (Below.refl _ w).alloc (Nat.le_refl _) _⟩
  case round =>
    obtain ⟨k, R, C, hk, hRS, rfl, rfl, hhp, hCs, hdr, hcs, hbl⟩ := hrel
    obtain ⟨v0, hv0⟩ : ∃ v, C[k]? = some v := ⟨_, Array.getElem?_eq_getElem (by omega)⟩
    have hc0 : wr.cell? ⟨w.heap.size, k, none⟩ = some v0 := by rw [cell_of_heap hhp]; exact hv0
    have hfz := frozen_of_heap hhp k
    have HHP := Lib.hid hhp; have HCS := Lib.hid hCs
    have hstep : ∀ p : List UInt8, (pieces l)[k]? = some p → ∀ (j : Nat) q, j < k + 1 → (pieces l)[j]? = some q → (C.setIfInBounds k (strV p))[j]? = some (strV q) := by
      intro p hp j q hj hq
      rw [Array.getElem?_setIfInBounds]
      split
      · rename_i e
        subst e
        rw [hp] at hq
        obtain rfl := Option.some.inj hq
        rw [if_pos (by omega)]
      · exact hcs.out j q (by omega) hq
    have HST := Lib.hid hstep
    clear hhp hv0 hstep
    by_cases hlt : k < n
    · have hlen : (pieces R.data.toList).length = n + 1 - k := by rw [← hdr.out, List.length_drop, HPL.out]
      obtain ⟨m, hm1, hm2, hm3, hm4⟩ := index_hit R.data.toList (pieces_two (by omega))
      have hph := pieces_hit hm3 hm4
      have hRl : R.size = R.data.toList.length := by simp
      have hmR : m < R.size := by rw [hRl]; exact hm2
      have hidx := index_any R wr
      unfold idxI at hidx
      rw [hm1] at hidx
      have HIX := Lib.hid hidx
      have HPH := Lib.hid hph; have HRL := Lib.hid hRl
      clear hidx hph hm1 hm2 hm3 hm4 hlen hRl hCs
      go_wp2_with fail
      refine HIX.out.mono ?_
      rintro e w' ⟨rfl, rfl⟩
      go_wp2_with fail
      go_roundw
      case rel =>
        have e1 : (R.extract 0 m).data.toList = R.data.toList.take m := by rw [Lib.extract_data]; simp
        have e2 : (R.extract (m + 1) R.size).data.toList = R.data.toList.drop (m + 1) := by
          rw [Lib.extract_data]; exact List.take_of_length_le (by rw [List.length_drop, ← HRL.out]; exact Nat.le_refl _)
        have hd := hdr.out
        rw [HPH.out] at hd
        have hat : (pieces l)[k]? = some (R.data.toList.take m) := by
          have := congrArg (fun z : List (List UInt8) => z[0]?) hd
          simpa using this
        refine ⟨k + 1, R.extract (m + 1) R.size, C.setIfInBounds k (strV (R.data.toList.take m)), by omega, by simp; omega, rfl, by go_num, ?_, by simp; exact HCS.out, ?_, HST.out _ hat, hbl.out.setCell (p := ⟨w.heap.size, k, none⟩) (Nat.le_refl _) _⟩
        · rw [← e1]
          exact heap_setCell_here (i := k) (.string (R.extract 0 m)) HHP.out
        · rw [e2, ← List.drop_drop, hd]; rfl
      case measure => simp [intOf]; omega
    · obtain rfl : k = n := by omega
      have hlen : (pieces R.data.toList).length = 1 := by rw [← hdr.out, List.length_drop, HPL.out]; omega
      have hat : (pieces l)[k]? = some R.data.toList := by
        have hd := hdr.out
        rw [pieces_one hlen] at hd
        have := congrArg (fun z : List (List UInt8) => z[0]?) hd
        simpa using this
      have HAT := Lib.hid hat
      clear hat hlen
      go_wp2_with fail
      go_ret
      refine ⟨some ⟨w.heap.size, 0, none⟩, k + 1, by rw [HPL.out]; rfl, rd_cells (heap_setCell_here (i := k) (.string R) HHP.out) (fun j p hj => HST.out _ HAT.out j p ?_ hj), hbl.out.setCell (p := ⟨w.heap.size, k, none⟩) (Nat.le_refl _) _⟩
      have := (List.getElem?_eq_some_iff.1 hj).1
      rw [HPL.out] at this
      exact this
set_option maxHeartbeats 1000000 in
theorem split_any (S : ByteArray) (w : World) (hs : S.size ≤ 1000000) :
    Calls Tryd.prog 30 #[.string S, .string ⟨#[47]⟩] w (SplitTo (pieces S.data.toList) w) := by
  have HG := Lib.hid (gen_any S w hs)
  go_enter Tryd.func30, Tryd.ntmps30
  go_wp2_with fail
  refine HG.out.mono ?_
  rintro e w1 ⟨a, c, rfl, h1, h2⟩
  have H1 := Lib.hid h1; have H2 := Lib.hid h2; clear h1 h2
  go_wp2
  go_ret
  exact ⟨a, c, rfl, H1.out, H2.out⟩
end Go.Proofs.YtjcimajkjnjdpaaDoor
