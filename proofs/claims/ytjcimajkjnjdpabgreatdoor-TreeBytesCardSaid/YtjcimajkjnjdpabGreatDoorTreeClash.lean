/- DERIVED. The search for a path that stands behind another one's stroke. -/
import Derived.Test.YtjcimajkjnjdpabGreatDoorTreeRow
import Derived.Test.YtjcimajkjnjdpabGreatDoorTreeMath
import Derived.Test.YtjcimajkjnjdpabGreatDoorMPath
namespace Go.Proofs.YtjcimajkjnjdpabGreatDoor
open Go.RowKit
set_option linter.unusedVariables false

set_option maxHeartbeats 1000000 in
theorem spre_any (S P : ByteArray) (w : World) (hs : S.size ≤ 1000000) (hp : P.size ≤ 1000000) : Calls Tryz.prog 49 #[.string S, .string P] w (fun e w' => e = .returned (.bool (preB S.data.toList P.data.toList)) ∧ w = w') := by
  have hG := pre_any S P w hs hp
  obtain ⟨b, hb⟩ : ∃ b, b = preB S.data.toList P.data.toList := ⟨_, rfl⟩
  rw [← hb] at hG ⊢
  have HG := Lib.hid hG
  clear hG hb
  go_enter Tryz.func49, Tryz.ntmps49
  go_wp2_with fail
  refine HG.out.mono ?_
  rintro e w' ⟨rfl, rfl⟩
  go_wp2
  go_ret
  exact ⟨rfl, rfl⟩
theorem data_of (l : List UInt8) : (⟨l.toArray⟩ : ByteArray).data.toList = l := rfl
theorem pre_ahead (f g : List UInt8) : preB g (f ++ [47]) = aheadB f g := by unfold preB aheadB; simp
set_option maxHeartbeats 1000000 in
theorem mk1_any (g : Pr) (f : List UInt8) (B : Nat) (w : World) (hc : w.cell? ⟨B, 0, none⟩ = some (strV f)) (hg : g.1.length ≤ 1000000) (hf : f.length ≤ 900000) :
    Calls Tryz.prog 48 #[.agg #[strV g.1, strV g.2], .pointer (some ⟨B, 0, none⟩)] w (fun e w' => e = .returned (.bool (aheadB f g.1)) ∧ Below w.heap.size w w') := by
  have hG := fun W => spre_any ⟨g.1.toArray⟩ ⟨(f ++ [47]).toArray⟩ W (by rw [str_size]; exact hg) (by rw [str_size, List.length_append, List.length_singleton]; omega)
  simp only [pre_ahead] at hG
  rw [← str_append] at hG
  have hB := cell_lt hc
  have hz : (⟨f.toArray⟩ : ByteArray).size ≤ 900000 := by rw [str_size]; exact hf
  have hgz : (⟨g.1.toArray⟩ : ByteArray).size ≤ 1000000 := by rw [str_size]; exact hg
  unfold strV at hc ⊢
  obtain ⟨A, hA⟩ : ∃ A : ByteArray, A = ⟨g.1.toArray⟩ := ⟨_, rfl⟩
  obtain ⟨A2, hA2⟩ : ∃ A : ByteArray, A = ⟨g.2.toArray⟩ := ⟨_, rfl⟩
  obtain ⟨F, hF⟩ : ∃ A : ByteArray, A = ⟨f.toArray⟩ := ⟨_, rfl⟩
  obtain ⟨R, hR⟩ : ∃ R, R = aheadB f g.1 := ⟨_, rfl⟩
  rw [← hA, ← hF, ← hR] at hG
  rw [← hF] at hc hz
  rw [← hA] at hgz
  rw [← hA, ← hA2, ← hR]
  have HG := Lib.hid hG
  have HB := Lib.hid ((Below.refl w.heap.size w).alloc (Nat.le_refl _) (.cells #[.string A, .string A2] 35))
  have c0 : (w.alloc (.cells #[.string A, .string A2] 35)).cell? ⟨B, 0, none⟩ = some (.string F) := below_keeps HB.out _ _ hc
  clear hG hA hA2 hF hR hc
  go_enter Tryz.func48, Tryz.ntmps48
  go_wp2_with fail
  refine (HG.out _).mono ?_
  rintro e w' ⟨rfl, rfl⟩
  go_wp2
  go_ret
  exact ⟨rfl, HB.out⟩
/-- What the search among files says. -/
def AnyTo (P : Pr → Bool) (ps : List Pr) (w : World) (e : Ending) (w' : World) : Prop := ∃ n : Int, e = .returned (.int .i64 n) ∧ (0 ≤ n ↔ ps.any P = true) ∧ -1 ≤ n ∧ Below w.heap.size w w'
theorem any_next {α : Type} {P : α → Bool} {ps : List α} {k : Nat} {c : α} (h : (ps.take k).any P = false) (hc : ps[k]? = some c) (hk : P c = false) : (ps.take (k + 1)).any P = false := by
  rw [List.take_add_one, hc, List.any_append, h]
  simp [hk]
theorem any_here {α : Type} {P : α → Bool} {ps : List α} {k : Nat} {c : α} (hc : ps[k]? = some c) (hk : P c = true) : ps.any P = true := List.any_eq_true.2 ⟨c, List.mem_of_getElem? hc, hk⟩
set_option maxHeartbeats 1000000 in
theorem fidx_any (a : Option Addr) (c : Nat) (ps : List Pr) (f : List UInt8) (B : Nat) (w : World) (hr : RdFl w a ps) (hn : ps.length ≤ 1000000) (hc : w.cell? ⟨B, 0, none⟩ = some (strV f)) (hf : f.length ≤ 900000) (hps : ∀ p ∈ ps, p.1.length ≤ 1000000) :
    Calls Tryz.prog 55 #[.slice a ps.length c, .func (.func 48) #[] #[.pointer (some ⟨B, 0, none⟩)]] w (AnyTo (fun g => aheadB f g.1) ps w) := by
  obtain ⟨n, hnn⟩ : ∃ n, n = ps.length := ⟨_, rfl⟩
  rw [← hnn] at hn ⊢
  have HR := Lib.hid hr; have HN := Lib.hid hnn; have HP := Lib.hid hps; have HC := Lib.hid hc
  clear hr hnn hps hc
  go_enter Tryz.func55, Tryz.ntmps55
  go_wp2
  go_loopw [8] (fun x wr => ∃ k : Nat, k ≤ n ∧ x = .int .i64 k ∧ Hid (Below w.heap.size w wr) ∧ Hid ((ps.take k).any (fun g => aheadB f g.1) = false)) (fun x _ => n - (intOf x).toNat)
  case atStart => exact ⟨0, Nat.zero_le _, rfl, Below.refl _ w, rfl⟩
  case round =>
    obtain ⟨k, hk, rfl, hbw, hall⟩ := hrel
    by_cases hlt : k < n
    · obtain ⟨p, hp⟩ : ∃ p, ps[k]? = some p := ⟨_, List.getElem?_eq_getElem (by rw [← HN.out]; exact hlt)⟩
      obtain ⟨b, o, rfl, _, hcs⟩ := HR.out.below hbw.out (fun e => by rw [e] at hp; cases hp)
      obtain ⟨hc0, hc1⟩ := hcs k p hp
      have hpl := HP.out p (List.mem_of_getElem? hp)
      have hG := mk1_any p f B wr (below_keeps hbw.out _ _ HC.out) hpl hf
      obtain ⟨S, hS⟩ : ∃ S : ByteArray, strV p.1 = .string S := ⟨_, rfl⟩
      obtain ⟨S2, hS2⟩ : ∃ S : ByteArray, strV p.2 = .string S := ⟨_, rfl⟩
      rw [hS, hS2] at hG
      rw [hS] at hc0; rw [hS2] at hc1
      have hPN : aheadB f p.1 = true ∨ aheadB f p.1 = false := by cases aheadB f p.1 <;> simp
      have HP0 := Lib.hid hp
      clear hcs hp hS hS2 hpl
      rcases hPN with hb | hb
      · rw [hb] at hG
        have HG := Lib.hid hG; have HB := Lib.hid hb
        clear hG hb
        go_wp2_with fail
        refine HG.out.mono ?_
        rintro e w' ⟨rfl, h2⟩
        have H2 := Lib.hid (hbw.out.trans (h2.mono hbw.out.size)); clear h2
        go_wp2
        go_ret
        exact ⟨k, rfl, ⟨fun _ => any_here HP0.out HB.out, fun _ => by omega⟩, by omega, H2.out⟩
      · rw [hb] at hG
        have HG := Lib.hid hG; have HB := Lib.hid hb
        clear hG hb
        go_wp2_with fail
        refine HG.out.mono ?_
        rintro e w' ⟨rfl, h2⟩
        have H2 := Lib.hid (hbw.out.trans (h2.mono hbw.out.size)); clear h2
        go_wp2
        go_roundw
        case rel => exact ⟨k + 1, hlt, by go_num, H2, any_next hall.out HP0.out HB.out⟩
        case measure => simp [intOf]; omega
    · have ha : ps.any (fun g => aheadB f g.1) = false := by
        have := hall.out
        rwa [List.take_of_length_le (by rw [← HN.out]; omega)] at this
      have HA := Lib.hid ha; clear ha
      go_wp2
      go_ret
      exact ⟨-1, rfl, ⟨fun h => by omega, fun h => by rw [HA.out] at h; cases h⟩, by omega, hbw.out⟩
set_option maxHeartbeats 1000000 in
theorem fcont_any (a : Option Addr) (c : Nat) (ps : List Pr) (f : List UInt8) (B : Nat) (w : World) (hr : RdFl w a ps) (hn : ps.length ≤ 1000000) (hc : w.cell? ⟨B, 0, none⟩ = some (strV f)) (hf : f.length ≤ 900000) (hps : ∀ p ∈ ps, p.1.length ≤ 1000000) :
    Calls Tryz.prog 47 #[.slice a ps.length c, .func (.func 48) #[] #[.pointer (some ⟨B, 0, none⟩)]] w (fun e w' => e = .returned (.bool (ps.any (fun g => aheadB f g.1))) ∧ Below w.heap.size w w') := by
  have hG := fidx_any a c ps f B w hr hn hc hf hps
  obtain ⟨n, hnn⟩ : ∃ n, n = ps.length := ⟨_, rfl⟩
  obtain ⟨R, hR⟩ : ∃ R, R = ps.any (fun g => aheadB f g.1) := ⟨_, rfl⟩
  unfold AnyTo at hG
  rw [← hnn, ← hR] at hG ⊢
  have HG := Lib.hid hG; clear hG hr hn hps hnn hc hR
  go_enter Tryz.func47, Tryz.ntmps47
  go_wp2_with fail
  refine HG.out.mono ?_
  rintro e w' ⟨n, rfl, h1, h2, h3⟩
  have H1 := Lib.hid h1; have H3 := Lib.hid h3; clear h1 h3
  cases R
  · have hn : n < 0 := by
      rcases Int.lt_or_le n 0 with h | h
      · exact h
      · have := H1.out.1 h; cases this
    obtain rfl : n = -1 := by omega
    go_wp2
    go_ret
    exact ⟨rfl, H3.out⟩
  · have hn : 0 ≤ n := H1.out.2 rfl
    go_wp2
    go_ret
    exact ⟨rfl, H3.out⟩
end Go.Proofs.YtjcimajkjnjdpabGreatDoor
