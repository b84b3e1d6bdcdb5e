/- DERIVED. The reference's Pieces. -/
import Derived.Test.YtjcimajkjnjdpabGreatDoorMPath
namespace Go.Proofs.YtjcimajkjnjdpabGreatDoor
open Go.RowKit
set_option linter.unusedVariables false
set_option maxRecDepth 100000

theorem same_of {A B : ByteArray} (h : A.data.toList = B.data.toList) : A = B := by
  cases A; cases B; simp at h; rw [h]
theorem byte_at (S : ByteArray) (k : Nat) (hk : k < S.size) : S.data.toList[k]? = some (S[k]'hk) := by rw [List.getElem?_eq_getElem (by simp; exact hk)]; rfl
theorem pieces_last (x : List UInt8) : ∃ q t, pieces x = q ++ [t] ∧ t.length ≤ x.length ∧ ∀ c : UInt8, c ≠ 47 → pieces (x ++ [c]) = q ++ [t ++ [c]] := by
  cases hl : lastSlash x with
  | none =>
    have hn := (lastSlash_none x).1 hl
    refine ⟨[], x, pieces_plain x hn, Nat.le_refl _, fun c hc => pieces_plain _ ?_⟩
    intro h
    rcases List.mem_append.1 h with h | h
    · exact hn h
    · exact hc (List.mem_singleton.1 h).symm
  | some i =>
    obtain ⟨g1, g2⟩ := lastSlash_some x i hl
    have ha : x = x.take i ++ 47 :: x.drop (i + 1) := by
      have hi := (List.getElem?_eq_some_iff.1 g1).1
      have := List.drop_eq_getElem_cons hi
      rw [(List.getElem?_eq_some_iff.1 g1).2] at this
      rw [← this]; exact (List.take_append_drop i x).symm
    refine ⟨pieces (x.take i), x.drop (i + 1), ?_, by rw [List.length_drop]; omega, fun c hc => ?_⟩
    · conv => lhs; rw [ha]
      rw [pieces_at, pieces_plain _ g2]
    · conv => lhs; rw [ha]
      rw [List.append_assoc, List.cons_append, pieces_at, pieces_plain (x.drop (i + 1) ++ [c])]
      intro h
      rcases List.mem_append.1 h with h | h
      · exact g2 h
      · exact hc (List.mem_singleton.1 h).symm
theorem pieces_new (x : List UInt8) : pieces (x ++ [47]) = pieces x ++ [[]] := by
  rw [pieces_at]; rfl
/-- A row of texts that the walk has made. -/
def OwnStrs (B : Nat) (g cap : Nat) (ps : List (List UInt8)) (w : World) : Prop :=
  B ≤ g ∧ ∃ cur, w.heap[g]? = some (.cells cur 9 (0, 0)) ∧ ps.length ≤ cap ∧ cap ≤ maxLen ∧ cur.size = cap ∧ cur.toList.take ps.length = strsV ps
theorem OwnStrs.owns {B g cap : Nat} {ps : List (List UInt8)} {w : World} (h : OwnStrs B g cap ps w) : w.ownsRow B 9 1 (.slice (some ⟨g, 0, none⟩) ps.length cap) ps.length (strsV ps) := by
  obtain ⟨h1, cur, h2, h3, h4, h5, h6⟩ := h
  exact ⟨by rw [strsV_length]; omega, .inr ⟨g, cap, cur, rfl, h1, h2, h3, h4, by omega, by rw [Nat.mul_one]; exact h6⟩⟩
theorem OwnStrs.of {B c n : Nat} {a : Option Addr} {ps : List (List UInt8)} {w : World} (h : w.ownsRow B 9 1 (.slice a n c) n (strsV ps)) (hp : ps ≠ []) : ∃ g, a = some ⟨g, 0, none⟩ ∧ n = ps.length ∧ OwnStrs B g c ps w := by
  obtain ⟨h1, h2⟩ := h
  rw [strsV_length, Nat.mul_one] at h1
  rcases h2 with ⟨_, rfl⟩ | ⟨g, cap, cur, e, hb, hg, hn, hm, hc, ht⟩
  · exact absurd (List.eq_nil_of_length_eq_zero h1) hp
  · obtain ⟨rfl, _, rfl⟩ := Value.slice.inj e
    rw [Nat.mul_one] at hc ht
    exact ⟨g, rfl, h1.symm, hb, cur, hg, by omega, hm, hc, by rw [h1]; exact ht⟩
theorem OwnStrs.put {B g cap : Nat} {q : List (List UInt8)} {t : List UInt8} {w : World} (h : OwnStrs B g cap (q ++ [t]) w) (u : List UInt8) : OwnStrs B g cap (q ++ [u]) (w.setCell ⟨g, q.length, none⟩ (strV u)) := by
  obtain ⟨h1, cur, h2, h3, h4, h5, h6⟩ := h
  refine ⟨h1, _, heap_setCell_here _ h2, by simpa using h3, h4, by simpa using h5, ?_⟩
  rw [Array.toList_setIfInBounds]
  have e : (q ++ [u]).length = (q ++ [t]).length := by simp
  rw [e, List.take_set, h6]
  simp [strsV]
theorem OwnStrs.last {B g cap : Nat} {q : List (List UInt8)} {t : List UInt8} {w : World} (h : OwnStrs B g cap (q ++ [t]) w) : w.cell? ⟨g, q.length, none⟩ = some (strV t) ∧ w.frozen? ⟨g, q.length, none⟩ = false := by
  obtain ⟨h1, cur, h2, h3, h4, h5, h6⟩ := h
  refine ⟨?_, frozen_of_heap h2 _⟩
  rw [cell_of_heap h2]
  have := congrArg (fun z : List Value => z[q.length]?) h6
  simp only [List.getElem?_take, List.length_append, List.length_cons, List.length_nil, Nat.zero_add] at this
  rw [if_pos (by omega), Array.getElem?_toList] at this
  rw [this]
  simp [strsV]
theorem OwnStrs.new (w : World) : OwnStrs w.heap.size w.heap.size 1 [[]] (w.alloc (.cells #[.string ⟨#[]⟩] 9)) :=
  ⟨Nat.le_refl _, _, heap_alloc_new w _, Nat.le_refl _, by unfold maxLen; omega, rfl, rfl⟩
theorem OwnStrs.rd {B g cap : Nat} {ps : List (List UInt8)} {w : World} (h : OwnStrs B g cap ps w) : RdStrs w (some ⟨g, 0, none⟩) ps := RdStrs.of_owns h.owns
set_option maxHeartbeats 2000000 in
theorem rpieces_any (S : ByteArray) (w : World) (hs : S.size ≤ 900000) : Calls Tryz.prog 80 #[.string S, .int .u8 47] w (SplitTo (pieces S.data.toList) w) := by
  obtain ⟨i9, hi, hz0, hz1, hz2⟩ := info_parts info9
  go_enter Tryz.func80, Tryz.ntmps80
  go_wp2
  go_loopw [5, 6] (fun out i wr => ∃ (k g cap : Nat) (q : List (List UInt8)) (t : List UInt8), out = .slice (some ⟨g, 0, none⟩) (q.length + 1) cap ∧ i = .int .i64 k ∧ k ≤ S.size ∧ q.length ≤ k ∧ t.length ≤ k ∧ Hid (pieces (S.data.toList.take k) = q ++ [t] ∧ ∀ c : UInt8, c ≠ 47 → pieces (S.data.toList.take k ++ [c]) = q ++ [t ++ [c]]) ∧ Hid (OwnStrs w.heap.size g cap (q ++ [t]) wr) ∧ Hid (Below w.heap.size w wr)) (fun _ i _ => S.size - (intOf i).toNat)
  case atStart => 
    refine ⟨0, w.heap.size, 1, [], [], rfl, rfl, Nat.zero_le _, Nat.zero_le _, Nat.zero_le _, ⟨rfl, fun c hc => ?_⟩, OwnStrs.new w, (Below.refl _ w).alloc (Nat.le_refl _) _⟩
    exact pieces_plain [c] (by intro h; exact hc (List.mem_singleton.1 h).symm)
  case round =>
    obtain ⟨k, g, cap, q, t, rfl, rfl, hk, hq, ht, hp, ho, hbw⟩ := hrel
    have hcap : q.length + 1 ≤ cap := by have := ho.out; obtain ⟨_, cur, _, h3, _⟩ := this; simpa using h3
    by_cases hlt : k < S.size
    · have hget := byte_at S k hlt
      have hnext : S.data.toList.take (k + 1) = S.data.toList.take k ++ [S[k]'hlt] := by rw [List.take_add_one, hget]; rfl
      by_cases h47 : (S[k]'hlt).toNat = 47
      · have h47' : ((S[k]'hlt).toNat : Int) = 47 := by omega
        have h47u : S[k]'hlt = 47 := by rw [← UInt8.toNat_inj]; exact h47
        have hd : (wr.alloc (.cells #[strV []] 9)).ownsRow w.heap.size 9 1 (.slice (some ⟨g, 0, none⟩) (q.length + 1) cap) (q.length + 1) (strsV (q ++ [t])) := by
          have h := ho.out.owns
          rw [List.length_append] at h
          exact ownsRow_keep h (fun g hg => Below.heap_alloc wr _ _ (owns_lt h g hg))
        have hfin : ∀ (w' : World) a' c', (wr.alloc (.cells #[strV []] 9)).grownBy w' (Value.slice (some ⟨g, 0, none⟩) (q.length + 1) cap).ownBlock → w'.ownsRow w.heap.size 9 1 (.slice a' (q.length + 1 + 1) c') (q.length + 1 + 1) (strsV (q ++ [t]) ++ [strV []]) →
            ∃ g', a' = some ⟨g', 0, none⟩ ∧ OwnStrs w.heap.size g' c' ((q ++ [t]) ++ [[]]) w' ∧ Below w.heap.size w w' := by
          intro w' a' c' hg ho'
          have e : strsV (q ++ [t]) ++ [strV []] = strsV ((q ++ [t]) ++ [[]]) := by simp [strsV]
          rw [e] at ho'
          obtain ⟨g', e1, e2, e3⟩ := OwnStrs.of ho' (by simp)
          exact ⟨g', e1, e3, grow_below (n := 0) hbw.out hg (fun g0 hg0 => owns_ge ho.out.owns g0 hg0)⟩
        have HD := Lib.hid hd; have HFIN := Lib.hid hfin
        have hp2 : pieces (S.data.toList.take (k + 1)) = (q ++ [t]) ++ [[]] ∧ ∀ c : UInt8, c ≠ 47 → pieces (S.data.toList.take (k + 1) ++ [c]) = (q ++ [t]) ++ [[] ++ [c]] := by
          rw [hnext, h47u]
          refine ⟨by rw [pieces_new, hp.out.1], fun c hc => ?_⟩
          rw [List.append_assoc, List.cons_append, List.nil_append, pieces_at, hp.out.1, pieces_plain [c] (by intro h; exact hc (List.mem_singleton.1 h).symm)]
        have HP2 := Lib.hid hp2
        clear hd hfin hget hnext h47 h47u hp2
        go_wp2_with (first | (at_builtin; refine wpList_append_srcs rfl (.tmp 19) (.tmp 20) 66 66 rfl w.heap.size 9 i9 (.string ByteArray.empty) 1 16 Tryz.underlying66 hi hz0 hz1 hz2 rfl (by decide) _ rfl _ _ HD.out _ rfl _ _ (one_src wr [] _) (by unfold maxLen; omega) (by omega) (Nat.le_trans hbw.out.size (by simp)) ?_; intro a' c' w' hown hgrow _ _; obtain ⟨g', rfl, h1, h2⟩ := HFIN.out _ _ _ hgrow hown; have H1 := Lib.hid h1; have H2 := Lib.hid h2; clear h1 h2 hown hgrow) | fail)
        go_roundw
        case rel => exact ⟨k + 1, g', c', q ++ [t], [], by rw [List.length_append]; rfl, by go_num, hlt, by rw [List.length_append]; exact Nat.succ_le_succ hq, Nat.zero_le _, HP2.out, H1.out, H2.out⟩
        case measure => simp [intOf]; omega
      · have h47' : ¬ ((S[k]'hlt).toNat : Int) = 47 := by omega
        have h47u : S[k]'hlt ≠ 47 := by intro h; apply h47; rw [h]; rfl
        obtain ⟨k0, kf⟩ := ho.out.last
        obtain ⟨T, hT⟩ : ∃ T : ByteArray, T = ⟨t.toArray⟩ := ⟨_, rfl⟩
        have hTs : T.size = t.length := by rw [hT, str_size]
        unfold strV at k0
        rw [← hT] at k0
        have hex : (S.extract k (k + 1)).size = 1 := by rw [ByteArray.size_extract]; omega
        go_wp2_with fail
        go_region
        have hbe : ((⟨t.toArray⟩ : ByteArray) ++ S.extract k (k + 1)) = ⟨(t ++ [S[k]'hlt]).toArray⟩ := by
          apply same_of
          rw [ByteArray.data_append, Array.toList_append, Lib.extract_data]
          show t ++ _ = t ++ [_]
          rw [Nat.add_sub_cancel_left, List.drop_eq_getElem_cons (by simp; exact hlt)]; rfl
        have hp2 : pieces (S.data.toList.take (k + 1)) = q ++ [t ++ [S[k]'hlt]] ∧ ∀ c : UInt8, c ≠ 47 → pieces (S.data.toList.take (k + 1) ++ [c]) = q ++ [t ++ [S[k]'hlt] ++ [c]] := by
          have h1 := hp.out.2 _ h47u
          rw [← hnext] at h1
          refine ⟨h1, fun c hc => ?_⟩
          obtain ⟨q', t', e1, _, e3⟩ := pieces_last (S.data.toList.take (k + 1))
          rw [h1] at e1
          obtain ⟨rfl, e2⟩ := List.append_inj' e1 rfl
          obtain rfl : t ++ [S[k]'hlt] = t' := by simpa using e2
          exact e3 c hc
        have ho2 := ho.out.put (t ++ [S[k]'hlt])
        unfold strV at ho2
        rw [← hbe] at ho2
        have HP2 := Lib.hid hp2; have HO2 := Lib.hid ho2
        have hb2 := (hbw.out.setCell (p := ⟨g, q.length, none⟩) ho.out.1 (Value.string ({ data := t.toArray } ++ S.extract k (k + 1)))).drew
        have HB2 := Lib.hid hb2
        clear hb2 ho2 hp2 hbe hget hnext h47 h47u hT
        go_wp2
        go_roundw
        case rel => exact ⟨k + 1, g, cap, q, t ++ [S[k]'hlt], rfl, by go_num, hlt, by omega, by simp; omega, HP2.out, HO2.out, HB2.out⟩
        case measure => simp [intOf]; omega
    · obtain rfl : k = S.size := by omega
      have hpp := hp.out.1
      rw [List.take_of_length_le (by simp)] at hpp
      have hend : SplitTo (pieces S.data.toList) w (.returned (.slice (some ⟨g, 0, none⟩) (q.length + 1) cap)) wr := by
        rw [hpp]
        exact ⟨_, _, by rw [List.length_append]; rfl, ho.out.rd, hbw.out⟩
      have HE := Lib.hid hend
      clear hend hpp
      go_wp2
      go_ret
      exact HE.out
end Go.Proofs.YtjcimajkjnjdpabGreatDoor
