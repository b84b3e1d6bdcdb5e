/- DERIVED. Mounts in memory; whether two places stand in each other's way. -/
import Derived.Test.YtknokfhmkhdieaaDoorTreeMount
namespace Go.Proofs.YtknokfhmkhdieaaDoor
open Go.RowKit
set_option linter.unusedVariables false

def nearB (a b : List UInt8) : Bool := decide (a = b) || (underP a b).2 || (underP b a).2
abbrev Mt := List UInt8 × List Pr
/-- A slice that reads as mounts. -/
def RdMt (w : World) (a : Option Addr) (ms : List Mt) : Prop :=
  ms ≠ [] → ∃ b o, a = some ⟨b, o, none⟩ ∧ b < w.heap.size ∧ ∀ i m, ms[i]? = some m → w.cell? ⟨b, o + i * 2, none⟩ = some (strV m.1) ∧ ∃ a' c', w.cell? ⟨b, o + i * 2 + 1, none⟩ = some (.slice a' m.2.length c') ∧ RdFl w a' m.2 ∧ Sl a' m.2.length c'
theorem RdMt.below {w w' : World} {a : Option Addr} {ms : List Mt} (h : RdMt w a ms) (hb : Below w.heap.size w w') : RdMt w' a ms := by
  intro hne
  obtain ⟨b, o, h1, h2, h3⟩ := h hne
  refine ⟨b, o, h1, Nat.lt_of_lt_of_le h2 hb.size, fun i m hi => ?_⟩
  obtain ⟨h4, a', c', h5, h6, h7⟩ := h3 i m hi
  exact ⟨below_keeps hb _ _ h4, a', c', below_keeps hb _ _ h5, h6.below hb, h7⟩
theorem RdMt.take {w : World} {a : Option Addr} {ms : List Mt} (h : RdMt w a ms) (k : Nat) : RdMt w a (ms.take k) := by
  intro hne
  obtain ⟨b, o, h1, h2, h3⟩ := h (fun e => by rw [e] at hne; simp at hne)
  refine ⟨b, o, h1, h2, fun i m hi => h3 i m ?_⟩
  rw [List.getElem?_take] at hi
  split at hi
  · exact hi
  · cases hi
set_option maxHeartbeats 4000000 in
theorem near_any (A B : ByteArray) (w : World) (ha : A.size ≤ 400000) (hb : B.size ≤ 400000) : Calls Tryd.prog 21 #[.string A, .string B] w (fun e w' => e = .returned (.bool (nearB A.data.toList B.data.toList)) ∧ Below w.heap.size w w') := by
  have hU := fun W => under_any A B W ha hb
  have hV := fun W => under_any B A W hb ha
  obtain ⟨R, hR⟩ : ∃ R, R = nearB A.data.toList B.data.toList := ⟨_, rfl⟩
  rw [← hR]
  unfold nearB at hR
  obtain ⟨u, hu⟩ : ∃ u, u = underP A.data.toList B.data.toList := ⟨_, rfl⟩
  obtain ⟨v, hv⟩ : ∃ v, v = underP B.data.toList A.data.toList := ⟨_, rfl⟩
  rw [← hu, ← hv] at hR
  rw [← hu] at hU
  rw [← hv] at hV
  obtain ⟨u1, u2⟩ := u
  obtain ⟨v1, v2⟩ := v
  dsimp only at hR hU hV
  unfold strV at hU hV
  obtain ⟨U, hU1⟩ : ∃ U : ByteArray, U = ⟨u1.toArray⟩ := ⟨_, rfl⟩
  obtain ⟨V, hV1⟩ : ∃ U : ByteArray, U = ⟨v1.toArray⟩ := ⟨_, rfl⟩
  rw [← hU1] at hU
  rw [← hV1] at hV
  have HU := Lib.hid hU; have HV := Lib.hid hV; have HR := Lib.hid hR
  have hq : (A.toList == B.toList) = decide (A.data.toList = B.data.toList) := by
    rw [Lib.toList_data, Lib.toList_data, Bool.eq_iff_iff, beq_iff_eq, decide_eq_true_iff]
  obtain ⟨q, hqq⟩ : ∃ q, q = decide (A.data.toList = B.data.toList) := ⟨_, rfl⟩
  rw [← hqq] at hq
  have HQ := Lib.hid hqq
  clear hU hV hR hu hv hU1 hV1 hqq
  cases q <;> cases u2 <;> cases v2
  all_goals
    go_enter Tryd.func21, Tryd.ntmps21
    go_wp2_with fail
    refine (HU.out w).mono ?_
    rintro e w1 ⟨rfl, h1⟩
    have H1 := Lib.hid h1; clear h1
    go_wp2_with fail
    refine (HV.out w1).mono ?_
    rintro e w2 ⟨rfl, h2⟩
    have H2 := Lib.hid (H1.out.trans (h2.mono H1.out.size)); clear h2
    go_wp2_with fail
    go_ret
    exact ⟨by rw [show R = _ from HR.out, ← HQ.out]; rfl, H2.out⟩
set_option maxHeartbeats 2000000 in
theorem build1_any (k : List UInt8) (av : Option Addr) (nv cv : Nat) (m : List UInt8) (B : Nat) (w : World) (hc : w.cell? ⟨B, 0, none⟩ = some (strV m)) (hk : k.length ≤ 400000) (hm : m.length ≤ 400000) :
    Calls Tryd.prog 20 #[.agg #[strV k, .slice av nv cv], .pointer (some ⟨B, 0, none⟩)] w (fun e w' => e = .returned (.bool (nearB k m)) ∧ Below w.heap.size w w') := by
  have hG := fun W => near_any ⟨k.toArray⟩ ⟨m.toArray⟩ W (by rw [str_size]; exact hk) (by rw [str_size]; exact hm)
  dsimp only at hG
  have hB := cell_lt hc
  unfold strV at hc ⊢
  obtain ⟨A, hA⟩ : ∃ A : ByteArray, A = ⟨k.toArray⟩ := ⟨_, rfl⟩
  obtain ⟨M, hM⟩ : ∃ A : ByteArray, A = ⟨m.toArray⟩ := ⟨_, rfl⟩
  obtain ⟨R, hR⟩ : ∃ R, R = nearB k m := ⟨_, rfl⟩
  rw [← hA, ← hM, ← hR] at hG
  rw [← hM] at hc
  rw [← hA, ← hR]
  obtain ⟨w1, hw1, hb1, hx1, hz1, hz2⟩ := new_two w (.string A) (.slice av nv cv) 36
  have x0 := cell_of_heap hx1 0
  have c0 := below_keeps hb1 _ _ hc
  have HG := Lib.hid hG; have HB := Lib.hid hb1
  clear hG hA hM hR hc hb1 hx1 hz1 hz2
  go_enter Tryd.func20, Tryd.ntmps20
  go_wp2_with fail
  refine (HG.out _).mono ?_
  rintro e w2 ⟨rfl, h2⟩
  have H2 := Lib.hid (HB.out.trans (h2.mono HB.out.size)); clear h2
  go_wp2_with fail
  go_ret
  exact ⟨rfl, H2.out⟩
def AnyM (P : Mt → Bool) (ms : List Mt) (w : World) (e : Ending) (w' : World) : Prop := ∃ n : Int, e = .returned (.int .i64 n) ∧ (0 ≤ n ↔ ms.any P = true) ∧ -1 ≤ n ∧ Below w.heap.size w w'
set_option maxHeartbeats 2000000 in
theorem midx_any (a : Option Addr) (c : Nat) (ms : List Mt) (m : List UInt8) (B : Nat) (w : World) (hr : RdMt w a ms) (hn : ms.length ≤ 1000000) (hc : w.cell? ⟨B, 0, none⟩ = some (strV m)) (hm : m.length ≤ 400000) (hms : ∀ k ∈ ms, k.1.length ≤ 400000) :
    Calls Tryd.prog 37 #[.slice a ms.length c, .func (.func 20) #[] #[.pointer (some ⟨B, 0, none⟩)]] w (AnyM (fun k => nearB k.1 m) ms w) := by
  obtain ⟨n, hnn⟩ : ∃ n, n = ms.length := ⟨_, rfl⟩
  rw [← hnn] at hn ⊢
  have HR := Lib.hid hr; have HN := Lib.hid hnn; have HP := Lib.hid hms; have HC := Lib.hid hc
  clear hr hnn hms hc
  go_enter Tryd.func37, Tryd.ntmps37
  go_wp2
  go_loopw [8] (fun x wr => ∃ k : Nat, k ≤ n ∧ x = .int .i64 k ∧ Hid (Below w.heap.size w wr) ∧ Hid ((ms.take k).any (fun k => nearB k.1 m) = false)) (fun x _ => n - (intOf x).toNat)
  case atStart => exact ⟨0, Nat.zero_le _, rfl, Below.refl _ w, rfl⟩
  case round =>
    obtain ⟨k, hk, rfl, hbw, hall⟩ := hrel
    by_cases hlt : k < n
    · obtain ⟨p, hp⟩ : ∃ p, ms[k]? = some p := ⟨_, List.getElem?_eq_getElem (by rw [← HN.out]; exact hlt)⟩
      obtain ⟨b, o, rfl, _, hcs⟩ := HR.out.below hbw.out (fun e => by rw [e] at hp; cases hp)
      obtain ⟨hc0, av, cv, hc1, _, _⟩ := hcs k p hp
      have hpl := HP.out p (List.mem_of_getElem? hp)
      have hG := build1_any p.1 av p.2.length cv m B wr (below_keeps hbw.out _ _ HC.out) hpl hm
      obtain ⟨S, hS⟩ : ∃ S : ByteArray, strV p.1 = .string S := ⟨_, rfl⟩
      obtain ⟨nv, hnv⟩ : ∃ nv, nv = p.2.length := ⟨_, rfl⟩
      rw [hS, ← hnv] at hG
      rw [hS] at hc0; rw [← hnv] at hc1
      have hPN : nearB p.1 m = true ∨ nearB p.1 m = false := by cases nearB p.1 m <;> simp
      have HP0 := Lib.hid hp
      clear hcs hp hS hpl hnv
      rcases hPN with hb | hb
      · rw [hb] at hG
        have HG := Lib.hid hG; have HB := Lib.hid hb
        clear hG hb
        go_wp2_with fail
        refine HG.out.mono ?_
        rintro e w' ⟨rfl, h2⟩
        have H2 := Lib.hid (hbw.out.trans (h2.mono hbw.out.size)); clear h2
        go_wp2
        go_ret
        exact ⟨k, rfl, ⟨fun _ => any_here HP0.out HB.out, fun _ => by omega⟩, by omega, H2.out⟩
      · rw [hb] at hG
        have HG := Lib.hid hG; have HB := Lib.hid hb
        clear hG hb
        go_wp2_with fail
        refine HG.out.mono ?_
        rintro e w' ⟨rfl, h2⟩
        have H2 := Lib.hid (hbw.out.trans (h2.mono hbw.out.size)); clear h2
        go_wp2
        go_roundw
        case rel => exact ⟨k + 1, hlt, by go_num, H2, any_next hall.out HP0.out HB.out⟩
        case measure => simp [intOf]; omega
    · have ha : ms.any (fun k => nearB k.1 m) = false := by
        have := hall.out
        rwa [List.take_of_length_le (by rw [← HN.out]; omega)] at this
      have HA := Lib.hid ha; clear ha
      go_wp2
      go_ret
      exact ⟨-1, rfl, ⟨fun h => by omega, fun h => by rw [HA.out] at h; cases h⟩, by omega, hbw.out⟩
set_option maxHeartbeats 1000000 in
theorem mcont_any (a : Option Addr) (c : Nat) (ms : List Mt) (m : List UInt8) (B : Nat) (w : World) (hr : RdMt w a ms) (hn : ms.length ≤ 1000000) (hc : w.cell? ⟨B, 0, none⟩ = some (strV m)) (hm : m.length ≤ 400000) (hms : ∀ k ∈ ms, k.1.length ≤ 400000) :
    Calls Tryd.prog 19 #[.slice a ms.length c, .func (.func 20) #[] #[.pointer (some ⟨B, 0, none⟩)]] w (fun e w' => e = .returned (.bool (ms.any (fun k => nearB k.1 m))) ∧ Below w.heap.size w w') := by
  have hG := midx_any a c ms m B w hr hn hc hm hms
  obtain ⟨n, hnn⟩ : ∃ n, n = ms.length := ⟨_, rfl⟩
  obtain ⟨R, hR⟩ : ∃ R, R = ms.any (fun k => nearB k.1 m) := ⟨_, rfl⟩
  unfold AnyM at hG
  rw [← hnn, ← hR] at hG ⊢
  have HG := Lib.hid hG; clear hG hr hn hms hnn hc hR
  go_enter Tryd.func19, Tryd.ntmps19
  go_wp2_with fail
  refine HG.out.mono ?_
  rintro e w' ⟨n, rfl, h1, h2, h3⟩
  have H1 := Lib.hid h1; have H3 := Lib.hid h3; clear h1 h3
  cases R
  · have hn : n < 0 := by
      rcases Int.lt_or_le n 0 with h | h
      · exact h
      · have := H1.out.1 h; cases this
    obtain rfl : n = -1 := by omega
    go_wp2
    go_ret
    exact ⟨rfl, H3.out⟩
  · have hn : 0 ≤ n := H1.out.2 rfl
    go_wp2
    go_ret
    exact ⟨rfl, H3.out⟩
end Go.Proofs.YtknokfhmkhdieaaDoor
