/- DERIVED. The walks of path.Good, path.Parts. -/
import Derived.Test.YtjcimajkjnjdpaaDoorPathName
namespace Go.Proofs.YtjcimajkjnjdpaaDoor
open Go.RowKit
set_option linter.unusedVariables false

set_option maxHeartbeats 1000000 in
theorem notName_any (s : ByteArray) (w : World) (hs : s.size ≤ 1000000) : Calls Tryd.prog 32 #[.string s] w (fun e w' => e = .returned (.bool (!(nameB s.data.toList))) ∧ Below w.heap.size w w') := by
  have hG := name_any s w hs
  obtain ⟨b, hb⟩ : ∃ b, b = nameB s.data.toList := ⟨_, rfl⟩
  rw [← hb] at hG ⊢
  have HG := Lib.hid hG
  clear hG hb
  go_enter Tryd.func32, Tryd.ntmps32
  go_wp2_with fail
  refine HG.out.mono ?_
  rintro e w' ⟨rfl, h2⟩
  have H2 := Lib.hid h2; clear h2
  go_wp2
  go_ret
  exact ⟨rfl, H2.out⟩
def NoTo (ps : List (List UInt8)) (w : World) (e : Ending) (w' : World) : Prop := ∃ n : Int, e = .returned (.int .i64 n) ∧ (0 ≤ n ↔ ps.all nameB = false) ∧ -1 ≤ n ∧ Below w.heap.size w w'
theorem all_next {ps : List (List UInt8)} {k : Nat} {c : List UInt8} (h : (ps.take k).all nameB = true) (hc : ps[k]? = some c) (hk : nameB c = true) : (ps.take (k + 1)).all nameB = true := by
  rw [List.take_add_one, hc, List.all_append, h]
  simp [hk]
theorem all_fails {ps : List (List UInt8)} {k : Nat} {c : List UInt8} (hc : ps[k]? = some c) (hk : nameB c = false) : ps.all nameB = false := by
  cases h : ps.all nameB
  · rfl
  · have := List.all_eq_true.1 h c (List.mem_of_getElem? hc)
    rw [hk] at this; cases this
set_option maxHeartbeats 1000000 in
theorem sidx_any (a : Option Addr) (c : Nat) (ps : List (List UInt8)) (w : World) (hr : RdStrs w a ps) (hn : ps.length ≤ 1000000) (hps : ∀ p ∈ ps, p.length ≤ 1000000) :
    Calls Tryd.prog 45 #[.slice a ps.length c, .func (.func 32) #[] #[]] w (NoTo ps w) := by
  obtain ⟨n, hnn⟩ : ∃ n, n = ps.length := ⟨_, rfl⟩
  rw [← hnn] at hn ⊢
  have HR := Lib.hid hr; have HN := Lib.hid hnn; have HP := Lib.hid hps
  clear hr hnn hps
  go_enter Tryd.func45, Tryd.ntmps45
  go_wp2
  go_loopw [8] (fun x wr => ∃ k : Nat, k ≤ n ∧ x = .int .i64 k ∧ Hid (Below w.heap.size w wr) ∧ Hid ((ps.take k).all nameB = true)) (fun x _ => n - (intOf x).toNat)
  case atStart => exact ⟨0, Nat.zero_le _, rfl, Below.refl _ w, rfl⟩
  case round =>
    obtain ⟨k, hk, rfl, hbw, hall⟩ := hrel
    by_cases hlt : k < n
    · obtain ⟨p, hp⟩ : ∃ p, ps[k]? = some p := ⟨_, List.getElem?_eq_getElem (by rw [← HN.out]; exact hlt)⟩
      obtain ⟨B, o, rfl, hcs⟩ := HR.out.below hbw.out (fun e => by rw [e] at hp; cases hp)
      have hc0 := hcs k p hp
      have hpl := HP.out p (List.mem_of_getElem? hp)
      have hG := notName_any ⟨p.toArray⟩ wr (by rw [str_size]; exact hpl)
      rw [show (⟨p.toArray⟩ : ByteArray).data.toList = p from rfl] at hG
      obtain ⟨S, hS⟩ : ∃ S : ByteArray, S = ⟨p.toArray⟩ := ⟨_, rfl⟩
      rw [← hS] at hG hc0
      have hPN : nameB p = true ∨ nameB p = false := by cases nameB p <;> simp
      have HP0 := Lib.hid hp
      clear hcs hp hS hpl
      rcases hPN with hb | hb
      · rw [hb] at hG
        have HG := Lib.hid hG; have HB := Lib.hid hb
        clear hG hb
        go_wp2_with fail
        refine HG.out.mono ?_
        rintro e w' ⟨rfl, h2⟩
        have H2 := Lib.hid (hbw.out.trans (h2.mono hbw.out.size)); clear h2
        go_wp2
        go_roundw
        case rel => exact ⟨k + 1, hlt, by go_num, H2, all_next hall.out HP0.out HB.out⟩
        case measure => simp [intOf]; omega
      · rw [hb] at hG
        have HG := Lib.hid hG; have HB := Lib.hid hb
        clear hG hb
        go_wp2_with fail
        refine HG.out.mono ?_
        rintro e w' ⟨rfl, h2⟩
        have H2 := Lib.hid (hbw.out.trans (h2.mono hbw.out.size)); clear h2
        go_wp2
        go_ret
        exact ⟨k, rfl, ⟨fun _ => all_fails HP0.out HB.out, fun _ => by omega⟩, by omega, H2.out⟩
    · have ha : ps.all nameB = true := by
        have := hall.out
        rwa [List.take_of_length_le (by rw [← HN.out]; omega)] at this
      have HA := Lib.hid ha; clear ha
      go_wp2
      go_ret
      exact ⟨-1, rfl, ⟨fun h => by omega, fun h => by rw [HA.out] at h; cases h⟩, by omega, hbw.out⟩
set_option maxHeartbeats 1000000 in
theorem scont_any (a : Option Addr) (c : Nat) (ps : List (List UInt8)) (w : World) (hr : RdStrs w a ps) (hn : ps.length ≤ 1000000) (hps : ∀ p ∈ ps, p.length ≤ 1000000) :
    Calls Tryd.prog 31 #[.slice a ps.length c, .func (.func 32) #[] #[]] w (fun e w' => e = .returned (.bool (!(ps.all nameB))) ∧ Below w.heap.size w w') := by
  have hG := sidx_any a c ps w hr hn hps
  obtain ⟨n, hnn⟩ : ∃ n, n = ps.length := ⟨_, rfl⟩
  rw [← hnn] at hG ⊢
  have HG := Lib.hid hG; clear hG hr hn hps hnn
  go_enter Tryd.func31, Tryd.ntmps31
  go_wp2_with fail
  refine HG.out.mono ?_
  rintro e w' ⟨n, rfl, h1, h2, h3⟩
  have H1 := Lib.hid h1; have H3 := Lib.hid h3; clear h1 h3
  cases hc : ps.all nameB
  · have hn : 0 ≤ n := H1.out.2 hc
    have HC := Lib.hid hc
    clear hc
    go_wp2
    go_ret
    refine ⟨?_, H3.out⟩
    rw [HC.out]; rfl
  · have hn : n < 0 := by
      rcases Int.lt_or_le n 0 with h | h
      · exact h
      · have := H1.out.1 h; rw [hc] at this; cases this
    have HC := Lib.hid hc
    clear hc
    obtain rfl : n = -1 := by omega
    go_wp2
    go_ret
    refine ⟨?_, H3.out⟩
    rw [HC.out]; rfl
theorem pieces_le (l : List UInt8) : ∀ p ∈ pieces l, p.length ≤ l.length := by
  induction l with
  | nil => intro p hp; simp [pieces] at hp; simp [hp]
  | cons c r ih =>
    intro p hp
    by_cases h : c = 47
    · subst h
      rw [pieces_slash] at hp
      rcases List.mem_cons.1 hp with rfl | hp
      · simp
      · have := ih p hp; simp; omega
    · rw [pieces_other c r h] at hp
      cases hq : pieces r with
      | nil => exact absurd hq (pieces_ne r)
      | cons q qs =>
        rw [hq] at hp
        rcases List.mem_cons.1 hp with rfl | hp
        · have := ih q (by rw [hq]; simp); simp; omega
        · have := ih p (by rw [hq]; simp [hp]); simp; omega
theorem pieces_len (l : List UInt8) : (pieces l).length ≤ l.length + 1 := by
  rw [pieces_count]
  have := List.count_le_length (a := (47 : UInt8)) (l := l)
  omega
set_option maxHeartbeats 1000000 in
theorem good_any (s : ByteArray) (w : World) (hs : s.size ≤ 900000) : Calls Tryd.prog 13 #[.string s] w (fun e w' => e = .returned (.bool (goodB s.data.toList)) ∧ Below w.heap.size w w') := by
  obtain ⟨ps, hps⟩ : ∃ ps, ps = pieces s.data.toList := ⟨_, rfl⟩
  have hsl : s.size = s.data.toList.length := by simp
  have hple : ∀ p ∈ ps, p.length ≤ 1000000 := fun p hp => by have := pieces_le s.data.toList p (by rw [← hps]; exact hp); omega
  have hpn : ps.length ≤ 1000000 := by have := pieces_len s.data.toList; rw [hps]; omega
  have hgd : goodB s.data.toList = (decide (s.size ≤ 128) && decide (ps.length ≤ 8) && ps.all nameB) := by unfold goodB; rw [hps, hsl]
  have hG := split_any s w (by omega)
  rw [hgd]
  rw [← hps] at hG
  obtain ⟨b, hb⟩ : ∃ b, b = ps.all nameB := ⟨_, rfl⟩
  have hG2 := fun (a : Option Addr) (c : Nat) (w1 : World) (hr : RdStrs w1 a ps) => scont_any a c ps w1 hr hpn hple
  rw [← hb] at hG2 ⊢
  have HG := Lib.hid hG; have HG2 := Lib.hid hG2
  obtain ⟨n, hnn⟩ : ∃ n, n = ps.length := ⟨_, rfl⟩
  have HN := Lib.hid hnn
  rw [← hnn]
  obtain ⟨R, hR⟩ : ∃ R, R = (decide (s.size ≤ 128) && decide (n ≤ 8) && b) := ⟨_, rfl⟩
  rw [← hR]
  have HR := Lib.hid hR
  clear hR hG hG2 hgd hsl hple hps hb hpn hnn
  go_enter Tryd.func13, Tryd.ntmps13
  go_wp2_with fail
  refine HG.out.mono ?_
  rintro e w1 ⟨a, c, rfl, h1, h2⟩
  have hG2 := HG2.out a c w1 h1
  have H2 := Lib.hid h2
  rw [← HN.out] at hG2 ⊢
  have HG3 := Lib.hid hG2
  clear hG2 h1 h2
  by_cases k1 : s.size ≤ 128
  · by_cases k2 : n ≤ 8
    · go_wp2_with fail
      refine HG3.out.mono ?_
      rintro e w' ⟨rfl, h3⟩
      have H3 := Lib.hid (H2.out.trans (h3.mono H2.out.size)); clear h3
      have e1 : R = b := by rw [HR.out]; simp [k1, k2]
      have HE := Lib.hid e1; clear e1
      cases b
      · go_wp2
        go_ret
        refine ⟨?_, H3.out⟩
        rw [HE.out]; rfl
      · go_wp2
        go_ret
        refine ⟨?_, H3.out⟩
        rw [HE.out]; rfl
    · have e1 : R = false := by rw [HR.out]; simp [k1, k2]
      have HE := Lib.hid e1; clear e1
      go_wp2
      go_ret
      refine ⟨?_, H2.out⟩
      rw [HE.out]; rfl
  · have e1 : R = false := by rw [HR.out]; simp [k1]
    have HE := Lib.hid e1; clear e1
    go_wp2
    go_ret
    refine ⟨?_, H2.out⟩
    rw [HE.out]; rfl
/-- The parts of a path; none of what is none. -/
def partsP (l : List UInt8) : List (List UInt8) := if goodB l then pieces l else []
end Go.Proofs.YtjcimajkjnjdpaaDoor
