/- DERIVED. The walk of path.Name. -/
import Derived.Test.YtjcimajkjnjdpaaDoorPathSplit
import Derived.Lib.OthersKept
import Derived.Laws.RangeAny
import Derived.Deep.LoopGhost
import Derived.Lib.TrimU
import Derived.Shelf.Abstract
import Derived.Laws.EntriesVeiled
namespace Go.Proofs.YtjcimajkjnjdpaaDoor
open Go.RowKit
set_option linter.unusedVariables false

def okR (r : Int) : Bool := (decide (97 ≤ r) && decide (r ≤ 122)) || (decide (48 ≤ r) && decide (r ≤ 57)) || decide (r = 45) || decide (r = 95) || decide (r = 46)
theorem okR_byte (c : UInt8) : okR (c.toNat : Int) = okB c := by
  have h := c.toNat_lt
  unfold okR okB
  have e1 : (decide (97 ≤ (c.toNat : Int))) = decide (97 ≤ c) := by rw [decide_eq_decide]; show _ ↔ (97 : UInt8).toNat ≤ c.toNat; simp; omega
  have e2 : (decide ((c.toNat : Int) ≤ 122)) = decide (c ≤ 122) := by rw [decide_eq_decide]; show _ ↔ c.toNat ≤ (122 : UInt8).toNat; simp; omega
  have e3 : (decide (48 ≤ (c.toNat : Int))) = decide (48 ≤ c) := by rw [decide_eq_decide]; show _ ↔ (48 : UInt8).toNat ≤ c.toNat; simp; omega
  have e4 : (decide ((c.toNat : Int) ≤ 57)) = decide (c ≤ 57) := by rw [decide_eq_decide]; show _ ↔ c.toNat ≤ (57 : UInt8).toNat; simp; omega
  have e5 : ∀ n : UInt8, (decide ((c.toNat : Int) = (n.toNat : Int))) = (c == n) := by
    intro n
    rw [Bool.eq_iff_iff, decide_eq_true_iff, beq_iff_eq, ← UInt8.toNat_inj]
    omega
  have f5 := e5 45; have f6 := e5 95; have f7 := e5 46
  rw [e1, e2, e3, e4]
  rw [show (decide ((c.toNat : Int) = 45)) = (c == 45) from f5, show (decide ((c.toNat : Int) = 95)) = (c == 95) from f6, show (decide ((c.toNat : Int) = 46)) = (c == 46) from f7]
theorem okR_high (r : Int) (h : 128 ≤ r) : okR r = false := by
  unfold okR
  simp; omega
set_option maxHeartbeats 1000000 in
theorem ok_any (r : Int) (w : World) : Calls Tryd.prog 46 #[.int .i32 r] w fun e w' => e = .returned (.bool (okR r)) ∧ w = w' := by
  have key : (okR r = true ∧ (97 ≤ r ∧ r ≤ 122)) ∨ (okR r = true ∧ (48 ≤ r ∧ r ≤ 57)) ∨ (okR r = true ∧ r = 45) ∨ (okR r = true ∧ r = 95) ∨ (okR r = true ∧ r = 46) ∨ (okR r = false ∧ (r < 48 ∧ r ≠ 45 ∧ r ≠ 46)) ∨ (okR r = false ∧ (57 < r ∧ r < 97 ∧ r ≠ 95)) ∨ (okR r = false ∧ 122 < r) := by
    by_cases a1 : 97 ≤ r ∧ r ≤ 122
    · exact .inl ⟨by unfold okR; simp; omega, a1⟩
    · by_cases a2 : 48 ≤ r ∧ r ≤ 57
      · exact .inr (.inl ⟨by unfold okR; simp; omega, a2⟩)
      · by_cases a3 : r = 45
        · exact .inr (.inr (.inl ⟨by unfold okR; simp; omega, a3⟩))
        · by_cases a4 : r = 95
          · exact .inr (.inr (.inr (.inl ⟨by unfold okR; simp; omega, a4⟩)))
          · by_cases a5 : r = 46
            · exact .inr (.inr (.inr (.inr (.inl ⟨by unfold okR; simp; omega, a5⟩))))
            · have hf : okR r = false := by unfold okR; simp; omega
              rcases (show r < 48 ∨ (57 < r ∧ r < 97) ∨ 122 < r from by omega) with h | h | h
              · exact .inr (.inr (.inr (.inr (.inr (.inl ⟨hf, h, a3, a5⟩)))))
              · exact .inr (.inr (.inr (.inr (.inr (.inr (.inl ⟨hf, h.1, h.2, a4⟩))))))
              · exact .inr (.inr (.inr (.inr (.inr (.inr (.inr ⟨hf, h⟩))))))
  have e : ∀ b : Bool, b = false → Ending.returned (Value.bool b) = Ending.returned (Value.bool false) := by rintro b rfl; rfl
  rcases key with ⟨hk, h⟩ | ⟨hk, h⟩ | ⟨hk, rfl⟩ | ⟨hk, rfl⟩ | ⟨hk, rfl⟩ | ⟨hk, h1, h2, h3⟩ | ⟨hk, h1, h2, h3⟩ | ⟨hk, h⟩
  all_goals
    rw [hk]
    clear hk
    go_enter Tryd.func46, Tryd.ntmps46
    go_wp2
    go_ret
    refine ⟨?_, rfl⟩
  · rfl
  · rfl
  · rfl
  · rfl
  · rfl
  · refine e _ ?_; simp; omega
  · refine e _ ?_; simp; omega
  · refine e _ ?_; simp; omega
set_option maxHeartbeats 1000000 in
theorem not_any (r : Int) (w : World) (B : Nat) (hb : w.cell? ⟨B, 0, none⟩ = some (.func (.func 46) #[] #[])) : Calls Tryd.prog 48 #[.int .i32 r, .pointer (some ⟨B, 0, none⟩)] w fun e w' => e = .returned (.bool (!okR r)) ∧ w = w' := by
  go_enter Tryd.func48, Tryd.ntmps48
  go_wp2_with fail
  refine (ok_any r w).mono ?_
  rintro e w' ⟨rfl, rfl⟩
  go_wp2
  go_ret
  exact ⟨rfl, rfl⟩
/-- What the search for a byte that is none of a name's says. -/
def BadTo (l : List UInt8) (w : World) (e : Ending) (w' : World) : Prop := ∃ n : Int, e = .returned (.int .i64 n) ∧ (0 ≤ n ↔ l.all okB = false) ∧ -1 ≤ n ∧ Below w.heap.size w w'
theorem all_take {l : List UInt8} {k : Nat} {c : UInt8} (h : (l.take k).all okB = true) (hc : l[k]? = some c) (hk : okB c = true) : (l.take (k + 1)).all okB = true := by
  rw [List.take_add_one, hc, List.all_append, h]
  simp [hk]
theorem all_bad {l : List UInt8} {k : Nat} {c : UInt8} (hc : l[k]? = some c) (hk : okB c = false) : l.all okB = false := by
  cases h : l.all okB
  · rfl
  · have := List.all_eq_true.1 h c (List.mem_of_getElem? hc)
    rw [hk] at this; cases this
set_option maxHeartbeats 2000000 in
theorem idxf_any (s : ByteArray) (w : World) (B : Nat) (hb : w.cell? ⟨B, 0, none⟩ = some (.func (.func 46) #[] #[])) :
    Calls Tryd.prog 86 #[.string s, .func (.func 48) #[] #[.pointer (some ⟨B, 0, none⟩)], .bool true] w (BadTo s.data.toList w) := by
  have hB := cell_lt hb
  have HB := Lib.hid hb; clear hb
  go_enter Tryd.func86, Tryd.ntmps86
  go_wp2
  go_loopg [] s.size (fun gf wx => ∃ pos : Nat, pos ≤ s.size ∧ wx.heap[w.heap.size]? = some (.stringIter s pos) ∧ Hid (Below w.heap.size w wx) ∧ Hid ((s.data.toList.take pos).all okB = true) ∧ s.size ≤ pos + gf)
  case atStart => exact ⟨0, Nat.zero_le _, World.iter_heap w s 0, (Below.refl _ w).alloc (Nat.le_refl _) _, rfl, by omega⟩
  case round =>
    obtain ⟨pos, hps, hit, hbw, hall, hfu⟩ := hrel
    by_cases hlt : pos < s.size
    · obtain ⟨g', rfl⟩ : ∃ g', gk = g' + 1 := ⟨gk - 1, by omega⟩
      have hnx : ∀ ty, (Instr.next (.pointer (some ⟨w.heap.size, 0, none⟩)) true ty).run Tryd.prog wr = _ := fun ty => Lib.run_next_any_at wr w.heap.size s pos ty hit hlt
      have hwd := Lib.width_pos s pos
      obtain ⟨R, hR⟩ : ∃ R, (Utf8.decode s pos).1 = R := ⟨_, rfl⟩
      obtain ⟨K, hK⟩ : ∃ K, (Utf8.decode s pos).2 = K := ⟨_, rfl⟩
      have key : (okR (R : Int) = true ∧ pos + K ≤ s.size ∧ (s.data.toList.take (pos + K)).all okB = true) ∨ (okR (R : Int) = false ∧ s.data.toList.all okB = false) := by
        have hget : s.data.toList[pos]? = some (s[pos]'hlt) := by
          rw [List.getElem?_eq_getElem (by simp; exact hlt)]; rfl
        by_cases ha : (s[pos]'hlt).toNat < 128
        · have hd := decode_ascii s pos hlt ha
          rw [hd] at hR hK
          subst hR hK
          cases hb : okB (s[pos]'hlt)
          · exact .inr ⟨by rw [okR_byte, hb], all_bad hget hb⟩
          · exact .inl ⟨by rw [okR_byte, hb], by omega, all_take hall.out hget hb⟩
        · have h1 := (decode_high s pos hlt (by omega)).1
          rw [hR] at h1
          refine .inr ⟨okR_high _ (by omega), all_bad hget ?_⟩
          rw [← okR_byte]
          exact okR_high _ (by omega)
      rw [hR, hK] at hnx
      rw [hK] at hwd
      have hit2 := Lib.iterAt_heap wr w.heap.size s pos (pos + K) hit
      have hbw2 := Lib.below_iterAt hbw.out (k := w.heap.size) (Nat.le_refl _) s (pos + K)
      obtain ⟨W, hWd⟩ : ∃ W, wr.iterAt w.heap.size s (pos + K) = W := ⟨_, rfl⟩
      rw [hWd] at hnx hit2 hbw2
      have hbW : W.cell? ⟨B, 0, none⟩ = some (.func (.func 46) #[] #[]) := by rw [hbw2.cell hB]; exact HB.out
      have cS := not_any (R : Int) W B hbW
      have HW2 := Lib.hid hbw2
      clear hbw2 hWd
      rcases key with ⟨hk, hk2, hk3⟩ | ⟨hk, hk2⟩
      · rw [hk] at cS
        have CS := Lib.hid cS; have HK3 := Lib.hid hk3; clear cS hk3 hk
        go_wp2_with fail
        refine CS.out.mono ?_
        rintro e W' ⟨rfl, rfl⟩
        go_wp2
        go_roundg g'
        case measure => omega
        case rel => exact ⟨pos + K, hk2, hit2, HW2, HK3, by omega⟩
      · rw [hk] at cS
        have CS := Lib.hid cS; have HK2 := Lib.hid hk2; clear cS hk2 hk
        go_wp2_with fail
        refine CS.out.mono ?_
        rintro e W' ⟨rfl, rfl⟩
        go_wp2
        go_ret
        exact ⟨pos, rfl, ⟨fun _ => HK2.out, fun _ => by omega⟩, by omega, HW2.out⟩
    · have hnx : ∀ ty, (Instr.next (.pointer (some ⟨w.heap.size, 0, none⟩)) true ty).run Tryd.prog wr = _ := fun ty => Lib.run_next_end_at wr w.heap.size s pos ty hit hlt
      have hp : s.data.toList.all okB = true := by
        have := hall.out
        rwa [List.take_of_length_le (by simp; omega)] at this
      have HP := Lib.hid hp
      clear hp
      go_wp2
      go_ret
      exact ⟨-1, rfl, ⟨fun h => by omega, fun h => by rw [HP.out] at h; cases h⟩, by omega, hbw.out⟩
set_option maxHeartbeats 1000000 in
theorem idxF_any (s : ByteArray) (w : World) (B : Nat) (hb : w.cell? ⟨B, 0, none⟩ = some (.func (.func 46) #[] #[])) :
    Calls Tryd.prog 69 #[.string s, .func (.func 48) #[] #[.pointer (some ⟨B, 0, none⟩)]] w (BadTo s.data.toList w) := by
  have HG := Lib.hid (idxf_any s w B hb); clear hb
  go_enter Tryd.func69, Tryd.ntmps69
  go_wp2_with fail
  refine HG.out.mono ?_
  rintro e w' ⟨n, rfl, h1, h2, h3⟩
  have H1 := Lib.hid h1; have H3 := Lib.hid h3; clear h1 h3
  go_wp2
  go_ret
  exact ⟨n, rfl, H1.out, h2, H3.out⟩
set_option maxHeartbeats 1000000 in
theorem contF_any (s : ByteArray) (w : World) (B : Nat) (hb : w.cell? ⟨B, 0, none⟩ = some (.func (.func 46) #[] #[])) :
    Calls Tryd.prog 47 #[.string s, .func (.func 48) #[] #[.pointer (some ⟨B, 0, none⟩)]] w (fun e w' => e = .returned (.bool (!(s.data.toList.all okB))) ∧ Below w.heap.size w w') := by
  have HG := Lib.hid (idxF_any s w B hb); clear hb
  go_enter Tryd.func47, Tryd.ntmps47
  go_wp2_with fail
  refine HG.out.mono ?_
  rintro e w' ⟨n, rfl, h1, h2, h3⟩
  have H1 := Lib.hid h1; have H3 := Lib.hid h3; clear h1 h3
  cases hc : s.data.toList.all okB
  · have hn : 0 ≤ n := H1.out.2 hc
    have HC := Lib.hid hc
    clear hc
    go_wp2
    go_ret
    refine ⟨?_, H3.out⟩
    rw [HC.out]; rfl
  · have hn : n < 0 := by
      rcases Int.lt_or_le n 0 with h | h
      · exact h
      · have := H1.out.1 h; rw [hc] at this; cases this
    have HC := Lib.hid hc
    clear hc
    obtain rfl : n = -1 := by omega
    go_wp2
    go_ret
    refine ⟨?_, H3.out⟩
    rw [HC.out]; rfl
set_option maxHeartbeats 1000000 in
theorem name_any (s : ByteArray) (w : World) (hs : s.size ≤ 1000000) : Calls Tryd.prog 33 #[.string s] w (fun e w' => e = .returned (.bool (nameB s.data.toList)) ∧ Below w.heap.size w w') := by
  have hB : Below w.heap.size w (w.alloc (.cells #[.func (.func 46) #[] #[]] 79)) := (Below.refl _ w).alloc (Nat.le_refl _) _
  by_cases h0 : s.data.toList = []
  · have e0 : s = ⟨#[]⟩ := by
      cases s with | mk a => cases a with | mk t => simp_all
    subst e0
    rw [show nameB (ByteArray.mk #[]).data.toList = false from rfl]
    have HB := Lib.hid hB
    clear h0 hs hB
    go_enter Tryd.func33, Tryd.ntmps33
    go_wp2
    go_ret
    exact ⟨rfl, HB.out⟩
  · have hne : s.toList.isEmpty = false := by rw [ByteArray.toList_eq]; simpa using h0
    have hsl : s.size = s.data.toList.length := by simp
    have hpos : 0 < s.size := by rw [hsl]; exact List.length_pos_iff.2 h0
    have hhd : s.data.toList.head? = some (s[0]'hpos) := by
      rw [List.head?_eq_getElem?, List.getElem?_eq_getElem (by simp; exact hpos)]; rfl
    by_cases h1 : s.size ≤ 32
    · by_cases h46 : s[0]'hpos = 46
      · have hn : nameB s.data.toList = false := by
          unfold nameB
          rw [hhd, h46]; simp
        rw [hn]
        have h46' : ((s[0]'hpos).toNat : Int) = 46 := by rw [h46]; rfl
        have HB := Lib.hid hB
        clear hn h0 hhd h46 hsl hB
        go_enter Tryd.func33, Tryd.ntmps33
        go_wp2
        go_ret
        exact ⟨rfl, HB.out⟩
      · have hn : nameB s.data.toList = s.data.toList.all okB := by
          unfold nameB
          rw [hhd]
          have e1 : s.data.toList.isEmpty = false := by simpa using h0
          have e2 : decide (s.data.toList.length ≤ 32) = true := by rw [← hsl]; simpa using h1
          have e3 : (some (s[0]'hpos) != some 46) = true := by simpa using h46
          rw [e1, e2, e3]; rfl
        rw [hn]
        have h46' : ¬ ((s[0]'hpos).toNat : Int) = 46 := by
          intro h
          apply h46
          rw [← UInt8.toNat_inj]
          show _ = 46
          omega
        have h46n : (((s[0]'hpos).toNat : Int) != 46) = true := by simpa using h46'
        have hG := (contF_any s (w.alloc (.cells #[.func (.func 46) #[] #[]] 79)) w.heap.size (by rw [cell_of_heap (heap_alloc_new w _)]; rfl))
        obtain ⟨b, hb⟩ : ∃ b, b = s.data.toList.all okB := ⟨_, rfl⟩
        rw [← hb] at hG ⊢
        have HG := Lib.hid hG
        clear hb hG
        have HB := Lib.hid hB
        clear hn h0 hhd h46 hsl hB
        go_enter Tryd.func33, Tryd.ntmps33
        go_wp2_with fail
        refine HG.out.mono ?_
        rintro e w' ⟨rfl, h2⟩
        have HB2 := Lib.hid (HB.out.trans (h2.mono (by simp)))
        clear h2
        cases b
        · go_wp2
          go_ret
          exact ⟨rfl, HB2.out⟩
        · go_wp2
          go_ret
          exact ⟨rfl, HB2.out⟩
    · have hn : nameB s.data.toList = false := by
        unfold nameB; rw [← hsl]; simp [h1]
      rw [hn]
      have HB := Lib.hid hB
      clear hn h0 hhd hsl hB
      go_enter Tryd.func33, Tryd.ntmps33
      go_wp2
      go_ret
      exact ⟨rfl, HB.out⟩
end Go.Proofs.YtjcimajkjnjdpaaDoor
