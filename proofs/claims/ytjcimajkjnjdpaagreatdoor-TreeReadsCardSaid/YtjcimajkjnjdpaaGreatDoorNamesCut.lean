/- DERIVED. strings.Cut at a stroke; the library's Sort and Compact on a row of texts of the call's own. -/
import Derived.Test.YtjcimajkjnjdpaaGreatDoorNamesLaw
import Derived.Test.YtjcimajkjnjdpaaGreatDoorStdB
import Derived.Test.YtjcimajkjnjdpaaGreatDoorMPath
import Derived.Deep.QuietTactic
import Derived.BigQuiet
import Derived.IntWalk
namespace Go.Proofs.YtjcimajkjnjdpaaGreatDoor
open Go.RowKit
set_option linter.unusedVariables false

theorem idx_pieces : ∀ l : List UInt8, (Lib.indexByte l 47 = -1 ∧ pieces l = [l]) ∨ ∃ i : Nat, Lib.indexByte l 47 = i ∧ i < l.length ∧ pieces l = l.take i :: pieces (l.drop (i + 1))
  | [] => .inl ⟨rfl, rfl⟩
  | b :: r => by
    by_cases hb : b = 47
    · subst hb
      exact .inr ⟨0, by simp [Lib.indexByte], by simp, by simp [pieces]⟩
    · have hb2 : (b == 47) = false := by simpa using hb
      rcases idx_pieces r with ⟨h1, h2⟩ | ⟨i, h1, h2, h3⟩
      · left
        refine ⟨by simp [Lib.indexByte, hb2, h1], ?_⟩
        rw [pieces_other b r hb, h2]; rfl
      · right
        refine ⟨i + 1, ?_, by simp; omega, ?_⟩
        · have : ((i : Int) == -1) = false := beq_eq_false_iff_ne.2 (by omega)
          simp [Lib.indexByte, hb2, h1, this]
        · rw [pieces_other b r hb, h3]; rfl
def headT (l : List UInt8) : List UInt8 := (pieces l).headD []
def moreB (l : List UInt8) : Bool := decide (1 < (pieces l).length)
def CutTo (l : List UInt8) (w : World) (e : Ending) (w' : World) : Prop := ∃ P R : ByteArray, e = .returned (.tuple #[.string P, .string R, .bool (moreB l)]) ∧ P = ⟨(headT l).toArray⟩ ∧ Below w.heap.size w w'
set_option maxRecDepth 100000 in
set_option maxHeartbeats 2000000 in
theorem lcut_any (S : ByteArray) (w : World) (hs : S.size ≤ 1000000) : Calls Tryz.prog 65 #[.string S, .string ⟨#[47]⟩] w (CutTo S.data.toList w) := by
  have hI := fun W => Tryz.stringslite_Index_one S 47 W
  have hsz : S.data.toList.length = S.size := by simp
  rcases idx_pieces S.data.toList with ⟨h1, h2⟩ | ⟨i, h1, h2, h3⟩
  · rw [h1] at hI
    have hm : moreB S.data.toList = false := by unfold moreB; rw [h2]; rfl
    have hh : headT S.data.toList = S.data.toList := by unfold headT; rw [h2]; rfl
    have HI := Lib.hid hI; have HM := Lib.hid hm; have HH := Lib.hid hh
    clear hI hm hh h1 h2 hsz
    go_enter Tryz.func65, Tryz.ntmps65
    go_wp2_with fail
    refine (HI.out w).mono ?_
    rintro e w1 ⟨rfl, hw1⟩
    have HW := Lib.hid hw1
    clear hw1
    go_wp2_with fail
    go_ret3
    exact ⟨S, ⟨#[]⟩, show Ending.returned (.tuple #[.string S, .string ⟨#[]⟩, .bool false]) = _ by rw [HM.out], by rw [HH.out], by rw [HW.out]; exact Below.refl _ _⟩
  · rw [h1] at hI
    have hlt : 1 < (pieces S.data.toList).length := by rw [h3]; simp; exact List.length_pos_iff.2 (pieces_ne _)
    have hm : moreB S.data.toList = true := by unfold moreB; exact decide_eq_true hlt
    have hh : headT S.data.toList = S.data.toList.take i := by unfold headT; rw [h3]; rfl
    have his : i < S.size := by omega
    have he : S.extract 0 i = ⟨(S.data.toList.take i).toArray⟩ := by
      apply ByteArray.ext
      rw [ByteArray.data_extract]
      apply Array.ext'
      simp
    have HI := Lib.hid hI; have HM := Lib.hid hm; have HH := Lib.hid hh; have HE := Lib.hid he
    clear hI hm hh he h1 h2 h3 hlt hsz
    have b1 : IntKind.i64.wrap ((i : Int) + 1) = (i : Int) + 1 := IntWalk.i64_in _ (by omega)
    have b2 : (0 : Int) ≤ (i : Int) + 1 := by omega
    have b3 : ((i : Int) + 1).toNat = i + 1 := by omega
    have b4 : (i : Int) ≤ (S.size : Int) := by omega
    have b5 : (i : Int) + 1 ≤ (S.size : Int) := by omega
    have b6 : (0 : Int) ≤ (i : Int) := by omega
    go_enter Tryz.func65, Tryz.ntmps65
    go_wp2_with fail
    refine (HI.out w).mono ?_
    rintro e w1 ⟨rfl, hw1⟩
    have HW := Lib.hid hw1
    clear hw1
    go_wp2_with fail
    go_quiet (fail)
    clear b1 b2 b3 b4 b5 b6
    go_wp2_with fail
    go_ret3
    exact ⟨S.extract 0 i, S.extract (i + 1) S.size, show Ending.returned (.tuple #[.string (S.extract 0 i), .string (S.extract (i + 1) S.size), .bool true]) = _ by rw [HM.out], by rw [HH.out]; exact HE.out, by rw [HW.out]; exact Below.drewN (Below.refl _ _) _⟩
set_option maxHeartbeats 1000000 in
theorem scut_any (S : ByteArray) (w : World) (hs : S.size ≤ 1000000) : Calls Tryz.prog 43 #[.string S, .string ⟨#[47]⟩] w (CutTo S.data.toList w) := by
  have hC := lcut_any S w hs
  have HC := Lib.hid hC
  clear hC
  go_enter Tryz.func43, Tryz.ntmps43
  go_wp2_with fail
  refine HC.out.mono ?_
  rintro e w1 ⟨P, R, rfl, hP, hb⟩
  have HP := Lib.hid hP; have HB := Lib.hid hb
  clear hP hb
  go_wp2_with fail
  go_ret3
  exact ⟨P, R, rfl, HP.out, HB.out⟩

/-! ### Sort and Compact on a row of the call's own -/
theorem ch_putRow (w : World) (g : Nat) (d : Array (List UInt8)) : Ch [g] w (Sort.putRow encStr w g 0 d) :=
  ⟨rfl, rfl, rfl, by simp, fun k _ hk => by
    have : g ≠ k := fun e => hk (by simp [e])
    simp [Sort.putRow, Sort.mapBlock, Array.getElem?_modify, this]⟩
theorem ch_grow (w : World) (os : Array Obj) : Ch [] w (Sort.grow w os) := ⟨rfl, rfl, rfl, by simp, fun k hk _ => Sort.heap_grow_old w os hk⟩
theorem ch_ahead (w : World) (n : Nat) : Ch [] w (Sort.ahead w n) := ⟨rfl, rfl, rfl, Nat.le_refl _, fun _ _ _ => rfl⟩
theorem holds_owns {w : World} {base g n c : Nat} {e : TypeId} {ss : List (List UInt8)} (h : w.ownsRow base e 1 (.slice (some ⟨g, 0, none⟩) n c) n (strsV ss)) : Sort.Holds encStr w g 0 ss.toArray ∧ g < w.heap.size := by
  rcases h.2 with ⟨e1, _⟩ | ⟨g', cap, cur, e1, _, hg, hn, _, hc, ht⟩
  · cases (Value.slice.inj e1).1
  · obtain ⟨h1, _, rfl⟩ := Value.slice.inj e1
    obtain rfl : g = g' := by have := Option.some.inj h1; simpa using this
    refine ⟨fun j hj => ?_, lt_of_heap hg⟩
    have hj' : j < ss.length := by simpa using hj
    refine ⟨?_, frozen_of_heap hg _⟩
    rw [cell_of_heap hg]
    have hx : (strsV ss)[j]? = some (strV ss[j]) := by simp [strsV, hj']
    rw [Nat.mul_one] at ht
    rw [← ht, List.getElem?_take] at hx
    split at hx
    · rw [Nat.zero_add, ← Array.getElem?_toList, hx]
      simp [hj']
      rfl
    · cases hx
theorem srtw_any (w : World) (g c : Nat) (ss : List (List UInt8)) (hH : Sort.Holds encStr w g 0 ss.toArray) (hg : g < w.heap.size) (hl : ss.length ≤ 1000000) :
    Calls Tryz.prog 44 #[.slice (some ⟨g, 0, none⟩) ss.length c] w (fun e w' => e = .returned (.tuple #[]) ∧ Sort.Holds encStr w' g 0 (ss.mergeSort fun x y => decide (x ≤ y)).toArray ∧ Ch [g] w w') := by
  refine (Tryz.slices_Sort_string g 0 c ss w hH hg (by omega)).mono ?_
  rintro e w' ⟨rfl, n, os, rfl⟩
  have hlen : (ss.mergeSort fun x y => decide (x ≤ y)).toArray.size = ss.toArray.size := by simp [List.length_mergeSort]
  refine ⟨rfl, ?_, ?_⟩
  · exact Sort.holds_grow encStr _ _ _ _ _ (by simpa using hg) (Sort.holds_putRow encStr _ _ _ _ _ (Sort.holds_ahead encStr _ _ _ _ _ hH) hlen)
  · exact ((((ch_ahead w n).mono (T := [g]) (by simp)).trans (ch_putRow _ g _) (by simp))).trans (ch_grow _ os) (by simp)
theorem cmpw_any (w : World) (g c : Nat) (zs : List (List UInt8)) (hH : Sort.Holds encStr w g 0 zs.toArray) (hl : zs.length ≤ 1000000) (hc : zs.length ≤ c) :
    Calls Tryz.prog 45 #[.slice (some ⟨g, 0, none⟩) zs.length c] w (fun e w' => e = .returned (.slice (some ⟨g, 0, none⟩) (Lib.compact zs).length c) ∧ (∀ j s, (Lib.compact zs)[j]? = some s → w'.cell? ⟨g, j, none⟩ = some (strV s)) ∧ Ch [g] w w') := by
  refine (Tryz.slices_Compact_string g 0 c zs w hH (by omega) hc).mono ?_
  rintro e w' ⟨rfl, q, rfl⟩
  have hle : (Lib.compact zs).length ≤ zs.length := by
    unfold Lib.compact Lib.compactUpTo
    rw [List.length_map]
    have := List.length_filter_le (Lib.keeps zs.toArray) (List.range zs.length)
    simpa using this
  have hsz : (Lib.compact zs ++ List.replicate (zs.length - (Lib.compact zs).length) []).toArray.size = zs.toArray.size := by simp; omega
  refine ⟨rfl, fun j s hj => ?_, ((ch_ahead w q).mono (T := [g]) (by simp)).trans (ch_putRow _ g _) (by simp)⟩
  have hjl := (List.getElem?_eq_some_iff.1 hj).1
  have hh := (Sort.holds_putRow encStr _ g 0 _ _ (Sort.holds_ahead encStr w q g 0 _ hH) hsz) j (by simp; omega)
  rw [Nat.zero_add] at hh
  rw [hh.1]
  have : (Lib.compact zs ++ List.replicate (zs.length - (Lib.compact zs).length) []).toArray[j]! = s := by
    rw [getElem!_pos _ j (by simp; omega)]
    simp [List.getElem_append_left hjl, (List.getElem?_eq_some_iff.1 hj).2]
  rw [this]
  rfl
end Go.Proofs.YtjcimajkjnjdpaaGreatDoor
