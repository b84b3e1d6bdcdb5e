/- DERIVED. tree.Get, and the search that it runs. (Printed by getgen.py.) -/
import Derived.Test.YtjcimajkjnjdpaaGreatDoorTreeMakeW
namespace Go.Proofs.YtjcimajkjnjdpaaGreatDoor
open Go.RowKit
set_option linter.unusedVariables false

theorem cmp_eq : ∀ a b : List UInt8, Lib.compareBytes a b = 0 ↔ a = b
  | [], [] => by simp [Lib.compareBytes]
  | [], _ :: _ => by simp [Lib.compareBytes]
  | _ :: _, [] => by simp [Lib.compareBytes]
  | x :: a, y :: b => by
    have ih := cmp_eq a b
    unfold Lib.compareBytes
    by_cases h1 : x < y
    · have : x ≠ y := fun e => by subst e; exact absurd h1 (UInt8.lt_irrefl _)
      simp [h1, this]
    · by_cases h2 : y < x
      · have : x ≠ y := fun e => by subst e; exact absurd h2 (UInt8.lt_irrefl _)
        simp [h1, h2, this]
      · have h3 : x = y := by
          apply Decidable.byContradiction
          intro hne
          rcases UInt8.lt_or_lt_of_ne hne with h | h
          · exact h1 h
          · exact h2 h
        subst h3
        simp [h1, ih]
/-- What a search among files finds. -/
def Found (ps : List Pr) (k : List UInt8) (w : World) (e : Ending) (w' : World) : Prop :=
  ∃ (i : Nat) (b : Bool), e = .returned (.tuple #[.int .i64 i, .bool b]) ∧ Pos ps k i ∧ (b = true ↔ ∃ v, (k, v) ∈ ps) ∧ Below w.heap.size w w'
theorem found_in {ps : List Pr} {k : List UInt8} {i : Nat} (hs : Srt ps) (h : Pos ps k i) (p : Pr) (hp : ps[i]? = some p) : p.1 = k ↔ ∃ v, (k, v) ∈ ps := by
  constructor
  · intro e; exact ⟨p.2, by rw [← e]; exact List.mem_of_getElem? hp⟩
  · rintro ⟨v, hv⟩
    have := h.at hs hv
    rw [hp] at this
    rw [Option.some.inj this]
theorem found_out {ps : List Pr} {k : List UInt8} (hs : Srt ps) (h : Pos ps k ps.length) : false = true ↔ ∃ v, (k, v) ∈ ps := by
  constructor
  · intro e; cases e
  · rintro ⟨v, hv⟩
    have := (List.getElem?_eq_some_iff.1 (h.at hs hv)).1
    omega
theorem pos_of {ps : List Pr} {k : List UInt8} {lo hi : Nat} (h : lo ≤ hi) (h2 : ¬ lo < hi) (hh : hi ≤ ps.length) (hl : ∀ t p, t < lo → ps[t]? = some p → Op.bytesLess p.1 k = true) (hg : ∀ t p, hi ≤ t → ps[t]? = some p → Op.bytesLess p.1 k = false) : Pos ps k lo := by
  obtain rfl : lo = hi := by omega
  exact ⟨hh, hl, hg⟩
theorem low_step {ps : List Pr} {k : List UInt8} {m : Nat} {p : Pr} (hs : Srt ps) (hm : ps[m]? = some p) (hp : Op.bytesLess p.1 k = true) (t : Nat) (q : Pr) (ht : t < m + 1) (hq : ps[t]? = some q) : Op.bytesLess q.1 k = true := by
  rcases Nat.lt_or_ge t m with h | h
  · exact less_trans _ _ _ (hs.lt h hq hm) hp
  · obtain rfl : t = m := by omega
    rw [hm] at hq
    rw [← Option.some.inj hq]; exact hp
theorem high_step {ps : List Pr} {k : List UInt8} {m : Nat} {p : Pr} (hs : Srt ps) (hm : ps[m]? = some p) (hp : Op.bytesLess p.1 k = false) (t : Nat) (q : Pr) (ht : m ≤ t) (hq : ps[t]? = some q) : Op.bytesLess q.1 k = false := by
  rcases Nat.eq_or_lt_of_le ht with rfl | h
  · rw [hm] at hq
    rw [← Option.some.inj hq]; exact hp
  · cases hb : Op.bytesLess q.1 k
    · rfl
    · have := less_trans _ _ _ (hs.lt h hm hq) hb
      rw [hp] at this; cases this
set_option maxRecDepth 100000 in
set_option maxHeartbeats 4000000 in
theorem bsf_any (w : World) (a : Option Addr) (c : Nat) (ps : List Pr) (k v : List UInt8) (hr : RdFl w a ps) (hs : Srt ps) (hl : ps.length ≤ 1000000) :
    Calls Tryz.prog 37 #[.slice a ps.length c, .agg #[strV k, strV v], .func (.func 30) #[] #[]] w (Found ps k w) := by
  obtain ⟨K, hK⟩ : ∃ x : ByteArray, strV k = .string x := ⟨_, rfl⟩
  obtain ⟨V, hV⟩ : ∃ x : ByteArray, strV v = .string x := ⟨_, rfl⟩
  obtain ⟨w1, hw1, hb1, hx1, _, _⟩ := new_two w (strV k) (strV v) 41
  have hbox : ∀ W, Below w1.heap.size w1 W → W.cell? ⟨w.heap.size, 0, none⟩ = some (strV k) ∧ W.cell? ⟨w.heap.size, 1, none⟩ = some (strV v) := fun W h => ⟨cell_of_heap ((h.block _ (lt_of_heap hx1)).trans hx1) 0, cell_of_heap ((h.block _ (lt_of_heap hx1)).trans hx1) 1⟩
  obtain ⟨n, hnn⟩ : ∃ n, n = ps.length := ⟨_, rfl⟩
  rw [← hnn] at hl ⊢
  have HR := Lib.hid (hr.below hb1); have HS := Lib.hid hs; have HBOX := Lib.hid hbox; have HN := Lib.hid hnn; have HB1 := Lib.hid hb1; have HKV := Lib.hid (And.intro hK hV)
  rw [hK, hV] at hw1 ⊢
  clear hr hs hbox hb1 hx1 hnn hK hV
  go_enter Tryz.func37, Tryz.ntmps37
  go_wp2_with fail
  go_loopw [9, 10] (fun x y wr => ∃ (lo hi : Nat), lo ≤ hi ∧ hi ≤ n ∧ x = .int .i64 lo ∧ y = .int .i64 hi ∧ Hid (∀ t p, t < lo → ps[t]? = some p → Op.bytesLess p.1 k = true) ∧ Hid (∀ t p, hi ≤ t → ps[t]? = some p → Op.bytesLess p.1 k = false) ∧ Hid (Below w1.heap.size w1 wr)) (fun x y _ => (intOf y).toNat - (intOf x).toNat)
  case atStart => exact ⟨0, n, Nat.zero_le _, Nat.le_refl _, rfl, rfl, (fun t p h => absurd h (Nat.not_lt_zero _)), (fun t p h hp => absurd (List.getElem?_eq_some_iff.1 hp).1 (by rw [← HN.out]; omega)), Below.refl _ _⟩
  case round =>
    obtain ⟨lo, hi, hlh, hhi, rfl, rfl, hlo, hhg, hbl⟩ := hrel
    by_cases hlt : lo < hi
    · obtain ⟨m, hm⟩ : ∃ m, m = (lo + hi) / 2 := ⟨_, rfl⟩
      have hmI : ((lo : Int) + hi) / 2 = m := by omega
      have hm1 : lo ≤ m := by omega
      have hm2 : m < hi := by omega
      clear hm
      obtain ⟨p, hp⟩ : ∃ p, ps[m]? = some p := ⟨_, List.getElem?_eq_getElem (by rw [← HN.out]; omega)⟩
      obtain ⟨b, o, rfl, hb, hc⟩ := (HR.out.below hbl.out) (fun e => by rw [e] at hp; cases hp)
      obtain ⟨hc0, hc1⟩ := hc _ p hp
      obtain ⟨ι, F, hF0, hFB, hFG⟩ := below_fam wr
      have hcF : ∀ a v, wr.cell? a = some v → ∀ n, (F n).cell? a = some v := fun a v h n => below_keeps (hFB n) _ _ h
      have p0 := hcF _ _ hc0
      have p1 := hcF _ _ hc1
      have t0 := hcF _ _ (HBOX.out _ hbl.out).1
      have t1 := hcF _ _ (HBOX.out _ hbl.out).2
      obtain ⟨z, hz⟩ : ∃ z, z = Lib.compareBytes p.1 k := ⟨_, rfl⟩
      have hcall : ∀ n, Calls Tryz.prog 30 #[.agg #[strV p.1, strV p.2], .agg #[strV k, strV v]] (F n) (fun e w' => e = .returned (.int .i64 z) ∧ ∃ m, w' = F m) :=
        calls_fam hFB hFG fun W hW => by rw [hz]; exact byPath_any p (k, v) W
      obtain ⟨P1, hP1⟩ : ∃ x : ByteArray, strV p.1 = .string x := ⟨_, rfl⟩
      obtain ⟨P2, hP2⟩ : ∃ x : ByteArray, strV p.2 = .string x := ⟨_, rfl⟩
      rw [hP1] at p0 hcall; rw [hP2] at p1 hcall
      rw [HKV.out.1] at t0 hcall; rw [HKV.out.2] at t1 hcall
      have hcmp := cmp_less p.1 k
      have hceq := cmp_eq p.1 k
      rw [← hz] at hcmp hceq
      have HCALL := Lib.hid hcall; have HF0 := Lib.hid hF0; have HFB := Lib.hid hFB
      have HP := Lib.hid hp; have HCMP := Lib.hid hcmp; have HCEQ := Lib.hid hceq
      clear hcall hF0 hFB hFG hcF hp hz hP1 hP2 hcmp hceq hc0 hc1 hc
      have hmn : m < n := by omega
      by_cases hcm : z < 0
      · have hless : Op.bytesLess p.1 k = true := by rw [← HCMP.out]; simpa using hcm
        have HLS := Lib.hid (fun t q ht hq => low_step HS.out HP.out hless t q ht hq)
        clear hless
        go_wp2_with fail
        obtain ⟨n0, hn0⟩ := HF0.out 1
        have hne : Nonempty ι := ⟨n0⟩
        refine wp_region_fam F n0 hn0 (by kernel_rfl) (by kernel_rfl) ?_
        repeat (go_big_quiet_step ((go_at_call 30; exact HCALL.out _)))
        refine wpQuiet_nil ?_
        intro _ hw'
        obtain ⟨m0, hw''⟩ := hw'
        subst hw''
        have hB1 := HFB.out m0
        clear p0 p1 t0 t1
        obtain ⟨W1, hW1⟩ : ∃ W1, W1 = F m0 := ⟨_, rfl⟩
        rw [← hW1] at hB1 ⊢
        have HB := Lib.hid (hbl.out.trans (hB1.mono hbl.out.size))
        clear hW1 HFB HF0 HCALL hB1
        clear hmI
        go_wp2_with fail
        go_roundw
        case rel => exact ⟨m + 1, hi, by omega, hhi, by go_num, rfl, HLS, hhg, HB⟩
        case measure => simp [intOf]; omega
      · have hless : Op.bytesLess p.1 k = false := by rw [← HCMP.out]; simpa using hcm
        have HLS := Lib.hid (fun t q ht hq => high_step HS.out HP.out hless t q ht hq)
        clear hless
        go_wp2_with fail
        obtain ⟨n0, hn0⟩ := HF0.out 1
        have hne : Nonempty ι := ⟨n0⟩
        refine wp_region_fam F n0 hn0 (by kernel_rfl) (by kernel_rfl) ?_
        repeat (go_big_quiet_step ((go_at_call 30; exact HCALL.out _)))
        refine wpQuiet_nil ?_
        intro _ hw'
        obtain ⟨m0, hw''⟩ := hw'
        subst hw''
        have hB1 := HFB.out m0
        clear p0 p1 t0 t1
        obtain ⟨W1, hW1⟩ : ∃ W1, W1 = F m0 := ⟨_, rfl⟩
        rw [← hW1] at hB1 ⊢
        have HB := Lib.hid (hbl.out.trans (hB1.mono hbl.out.size))
        clear hW1 HFB HF0 HCALL hB1
        clear hmI
        go_wp2_with fail
        go_roundw
        case rel => exact ⟨lo, m, by omega, by omega, rfl, rfl, hlo, HLS, HB⟩
        case measure => simp [intOf]; omega
    · have hpos := Lib.hid (pos_of hlh hlt (by rw [← HN.out]; exact hhi) hlo.out hhg.out)
      clear hlo hhg
      by_cases hin : lo < n
      · obtain ⟨p, hp⟩ : ∃ p, ps[lo]? = some p := ⟨_, List.getElem?_eq_getElem (by rw [← HN.out]; omega)⟩
        obtain ⟨b, o, rfl, hb, hc⟩ := (HR.out.below hbl.out) (fun e => by rw [e] at hp; cases hp)
        obtain ⟨hc0, hc1⟩ := hc _ p hp
        obtain ⟨ι, F, hF0, hFB, hFG⟩ := below_fam wr
        have hcF : ∀ a v, wr.cell? a = some v → ∀ n, (F n).cell? a = some v := fun a v h n => below_keeps (hFB n) _ _ h
        have p0 := hcF _ _ hc0
        have p1 := hcF _ _ hc1
        have t0 := hcF _ _ (HBOX.out _ hbl.out).1
        have t1 := hcF _ _ (HBOX.out _ hbl.out).2
        obtain ⟨z, hz⟩ : ∃ z, z = Lib.compareBytes p.1 k := ⟨_, rfl⟩
        have hcall : ∀ n, Calls Tryz.prog 30 #[.agg #[strV p.1, strV p.2], .agg #[strV k, strV v]] (F n) (fun e w' => e = .returned (.int .i64 z) ∧ ∃ m, w' = F m) :=
          calls_fam hFB hFG fun W hW => by rw [hz]; exact byPath_any p (k, v) W
        obtain ⟨P1, hP1⟩ : ∃ x : ByteArray, strV p.1 = .string x := ⟨_, rfl⟩
        obtain ⟨P2, hP2⟩ : ∃ x : ByteArray, strV p.2 = .string x := ⟨_, rfl⟩
        rw [hP1] at p0 hcall; rw [hP2] at p1 hcall
        rw [HKV.out.1] at t0 hcall; rw [HKV.out.2] at t1 hcall
        have hcmp := cmp_less p.1 k
        have hceq := cmp_eq p.1 k
        rw [← hz] at hcmp hceq
        have HCALL := Lib.hid hcall; have HF0 := Lib.hid hF0; have HFB := Lib.hid hFB
        have HP := Lib.hid hp; have HCMP := Lib.hid hcmp; have HCEQ := Lib.hid hceq
        clear hcall hF0 hFB hFG hcF hp hz hP1 hP2 hcmp hceq hc0 hc1 hc
        have hin2 : decide (lo < n) = true := by simpa using hin
        go_wp2_with fail
        obtain ⟨n0, hn0⟩ := HF0.out 1
        have hne : Nonempty ι := ⟨n0⟩
        refine wp_region_fam F n0 hn0 (by kernel_rfl) (by kernel_rfl) ?_
        repeat (go_big_quiet_step ((go_at_call 30; exact HCALL.out _)))
        refine wpQuiet_nil ?_
        intro _ hw'
        obtain ⟨m0, hw''⟩ := hw'
        subst hw''
        have hB1 := HFB.out m0
        clear p0 p1 t0 t1
        obtain ⟨W1, hW1⟩ : ∃ W1, W1 = F m0 := ⟨_, rfl⟩
        rw [← hW1] at hB1 ⊢
        have HB := Lib.hid (hbl.out.trans (hB1.mono hbl.out.size))
        clear hW1 HFB HF0 HCALL hB1
        go_wp2_with fail
        go_ret2
        refine ⟨lo, _, rfl, hpos.out, ?_, HB1.out.trans (HB.out.mono HB1.out.size)⟩
        rw [← found_in HS.out hpos.out p HP.out, ← HCEQ.out]
        simp
      · have hin2 : decide (lo < n) = false := by simpa using hin
        obtain ⟨ι, F, hF0, hFB, hFG⟩ := below_fam wr
        have HF0 := Lib.hid hF0; have HFB := Lib.hid hFB
        clear hF0 hFB hFG
        go_wp2_with fail
        obtain ⟨n0, hn0⟩ := HF0.out 1
        have hne : Nonempty ι := ⟨n0⟩
        refine wp_region_fam F n0 hn0 (by kernel_rfl) (by kernel_rfl) ?_
        repeat (go_big_quiet_step (fail))
        refine wpQuiet_nil ?_
        intro _ hw'
        obtain ⟨m0, hw''⟩ := hw'
        subst hw''
        have hB1 := HFB.out m0
        obtain ⟨W1, hW1⟩ : ∃ W1, W1 = F m0 := ⟨_, rfl⟩
        rw [← hW1] at hB1 ⊢
        have HB := Lib.hid (hbl.out.trans (hB1.mono hbl.out.size))
        clear hW1 HFB HF0 hB1
        go_wp2_with fail
        go_ret2
        refine ⟨lo, _, rfl, hpos.out, ?_, HB1.out.trans (HB.out.mono HB1.out.size)⟩
        have e : lo = ps.length := by rw [← HN.out]; omega
        have hp := hpos.out
        rw [e] at hp
        exact found_out HS.out hp
/-- A file's bytes. -/
def getT (ps : List Pr) (k : List UInt8) : List UInt8 × Bool := match ps.find? (fun p => p.1 == k) with
  | some p => (p.2, true)
  | none => ([], false)
theorem getT_in {ps : List Pr} {k v : List UInt8} (hn : (ps.map Prod.fst).Nodup) (h : (k, v) ∈ ps) : getT ps k = (v, true) := by
  unfold getT
  cases hf : ps.find? (fun p => p.1 == k) with
  | none =>
    have := List.find?_eq_none.1 hf (k, v) h
    simp at this
  | some p =>
    have h1 := List.mem_of_find?_eq_some hf
    have h2 := List.find?_some hf
    have h2 : p.1 = k := by simpa using h2
    obtain ⟨i, hi⟩ := List.getElem?_of_mem h1
    obtain ⟨j, hj⟩ := List.getElem?_of_mem h
    obtain ⟨li, ei⟩ := List.getElem?_eq_some_iff.1 hi
    obtain ⟨lj, ej⟩ := List.getElem?_eq_some_iff.1 hj
    have hp := List.pairwise_iff_getElem.1 (List.pairwise_map.1 hn)
    by_cases e : i = j
    · subst e
      rw [ei] at ej
      rw [ej]
    · exfalso
      rcases Nat.lt_or_gt_of_ne e with hlt | hlt
      · have := hp i j li lj hlt
        rw [ei, ej] at this
        exact this h2
      · have := hp j i lj li hlt
        rw [ei, ej] at this
        exact this h2.symm
theorem getT_out {ps : List Pr} {k : List UInt8} (h : ∀ v, (k, v) ∉ ps) : getT ps k = ([], false) := by
  unfold getT
  cases hf : ps.find? (fun p => p.1 == k) with
  | none => rfl
  | some p =>
    exfalso
    have h1 := List.mem_of_find?_eq_some hf
    have h2 := List.find?_some hf
    have h2 : p.1 = k := by simpa using h2
    exact h p.2 (by rw [← h2]; exact h1)
end Go.Proofs.YtjcimajkjnjdpaaGreatDoor
