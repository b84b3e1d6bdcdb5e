/- DERIVED. slices.Equal of files, and the reference's Same. -/
import Derived.Test.YtjcimajkjnjdpabGreatDoorTreeMakeW
namespace Go.Proofs.YtjcimajkjnjdpabGreatDoor
open Go.RowKit
set_option linter.unusedVariables false

theorem part_str (w : World) (xs : Array Value) (k : Nat) (v : Value) (h : xs[k]? = some v) : (part 9 xs k).run Tryz.prog w = .ok v w := by
  simp [part, isAgg, run_underlying Tryz.underlying9, h]
theorem eqs_str (d : Nat) (w : World) (A B : ByteArray) : (Op.equalIn (d + 1) 9 (.string A) (.string B)).run Tryz.prog w = .ok (A == B) w := by
  simp [Op.equalIn, run_underlying Tryz.underlying9]
theorem eq_file (d : Nat) (w : World) (A B C D : ByteArray) : (Op.equalIn (d + 2) 35 (.agg #[.string A, .string B]) (.agg #[.string C, .string D])).run Tryz.prog w = .ok (A == C && B == D) w := by
  unfold Op.equalIn
  have h1 := part_str w #[.string A, .string B] 0 _ rfl
  have h2 := part_str w #[.string A, .string B] 1 _ rfl
  have h3 := part_str w #[.string C, .string D] 0 _ rfl
  have h4 := part_str w #[.string C, .string D] 1 _ rfl
  cases hx : A == C <;> cases hy : B == D <;> simp [run_underlying Tryz.underlying35, h1, h2, h3, h4, eqs_str, hx, hy]
theorem bytes_beq2 (a b : List UInt8) : ((⟨a.toArray⟩ : ByteArray) == ⟨b.toArray⟩) = decide (a = b) := by
  rw [Go.beq_toListBytes, Lib.toList_data, Lib.toList_data, Bool.eq_iff_iff, beq_iff_eq, decide_eq_true_iff]
theorem neq_file (w : World) (p q : Pr) : (binOp .neq 35 (.agg #[strV p.1, strV p.2]) (.agg #[strV q.1, strV q.2])).run Tryz.prog w = .ok (.bool (!decide (p = q))) w := by
  have h := eq_file 9998 w ⟨p.1.toArray⟩ ⟨p.2.toArray⟩ ⟨q.1.toArray⟩ ⟨q.2.toArray⟩
  have e : (decide (p.1 = q.1) && decide (p.2 = q.2)) = decide (p = q) := by
    rw [Bool.eq_iff_iff, Bool.and_eq_true, decide_eq_true_iff, decide_eq_true_iff, decide_eq_true_iff, Prod.ext_iff]
  rw [bytes_beq2, bytes_beq2, e] at h
  simp only [binOp]
  simp [Op.equal, Op.maxDepth, strV, h]
theorem take_next {ps qs : List Pr} {k : Nat} {p : Pr} (h : ps.take k = qs.take k) (hp : ps[k]? = some p) (hq : qs[k]? = some p) : ps.take (k + 1) = qs.take (k + 1) := by
  rw [List.take_add_one, List.take_add_one, h, hp, hq]
set_option maxRecDepth 100000 in
set_option maxHeartbeats 4000000 in
theorem eqf_any (w : World) (a a' : Option Addr) (c c' : Nat) (ps qs : List Pr) (hr : RdFl w a ps) (hr' : RdFl w a' qs) (hl : ps.length ≤ 1000000) (hl' : qs.length ≤ 1000000) :
    Calls Tryz.prog 50 #[.slice a ps.length c, .slice a' qs.length c'] w (fun e w' => e = .returned (.bool (decide (ps = qs))) ∧ Below w.heap.size w w') := by
  obtain ⟨n, hnn⟩ : ∃ n, n = ps.length := ⟨_, rfl⟩
  obtain ⟨m, hmm⟩ : ∃ m, m = qs.length := ⟨_, rfl⟩
  obtain ⟨R, hR⟩ : ∃ R, R = decide (ps = qs) := ⟨_, rfl⟩
  rw [← hnn, ← hmm, ← hR]
  by_cases hnm : n = m
  · subst hnm
    have hnl : n ≤ 1000000 := by omega
    have hnf : ((n : Int) != n) = false := by simp
    have HR := Lib.hid hr; have HR' := Lib.hid hr'; have HN := Lib.hid hnn; have HM := Lib.hid hmm; have HRR := Lib.hid hR
    clear hr hr' hnn hmm hR hl hl'
    go_enter Tryz.func50, Tryz.ntmps50
    go_wp2_with fail
    go_loopw [13] (fun x wr => ∃ k : Nat, x = .int .i64 k ∧ k ≤ n ∧ Hid (ps.take k = qs.take k) ∧ Hid (Below w.heap.size w wr)) (fun x _ => n - (intOf x).toNat)
    case atStart => exact ⟨0, rfl, Nat.zero_le _, rfl, Below.refl _ _⟩
    case round =>
      obtain ⟨k, rfl, hkn, htk, hbw⟩ := hrel
      by_cases hlt : k < n
      · obtain ⟨p, hp⟩ : ∃ p, ps[k]? = some p := ⟨_, List.getElem?_eq_getElem (by rw [← HN.out]; exact hlt)⟩
        obtain ⟨q, hq⟩ : ∃ q, qs[k]? = some q := ⟨_, List.getElem?_eq_getElem (by rw [← HM.out]; exact hlt)⟩
        obtain ⟨rb, o, rfl, _, hcs⟩ := HR.out.below hbw.out (fun e => by rw [e] at hp; cases hp)
        obtain ⟨rb', o', rfl, _, hcs'⟩ := HR'.out.below hbw.out (fun e => by rw [e] at hq; cases hq)
        obtain ⟨ι, F, hF0, hFB, hFG⟩ := below_fam wr
        have hcF : ∀ a v, wr.cell? a = some v → ∀ n, (F n).cell? a = some v := fun a v h n => below_keeps (hFB n) _ _ h
        have p0 := hcF _ _ (hcs k p hp).1
        have p1 := hcF _ _ (hcs k p hp).2
        have q0 := hcF _ _ (hcs' k q hq).1
        have q1 := hcF _ _ (hcs' k q hq).2
        obtain ⟨S1, hS1⟩ : ∃ S : ByteArray, S = ⟨p.1.toArray⟩ := ⟨_, rfl⟩
        obtain ⟨S2, hS2⟩ : ∃ S : ByteArray, S = ⟨p.2.toArray⟩ := ⟨_, rfl⟩
        obtain ⟨T1, hT1⟩ : ∃ S : ByteArray, S = ⟨q.1.toArray⟩ := ⟨_, rfl⟩
        obtain ⟨T2, hT2⟩ : ∃ S : ByteArray, S = ⟨q.2.toArray⟩ := ⟨_, rfl⟩
        have hne := fun W => neq_file W p q
        unfold strV at p0 p1 q0 q1 hne
        rw [← hS1] at p0 hne; rw [← hS2] at p1 hne; rw [← hT1] at q0 hne; rw [← hT2] at q1 hne
        have HF0 := Lib.hid hF0; have HFB := Lib.hid hFB; have HP := Lib.hid hp; have HQ := Lib.hid hq
        clear hF0 hFB hFG hcF hp hq hS1 hS2 hT1 hT2 hcs hcs'
        have hpq0 : decide (p = q) = true ∨ decide (p = q) = false := by cases decide (p = q) <;> simp
        rcases hpq0 with hpq | hpq
        all_goals
          rw [hpq] at hne
          have HPQ := Lib.hid hpq
          clear hpq
          go_wp2_with fail
          obtain ⟨n0, hn0⟩ := HF0.out 1
          have hnem : Nonempty ι := ⟨n0⟩
          refine wp_region_fam F n0 hn0 (by kernel_rfl) (by kernel_rfl) ?_
          repeat (go_big_quiet_step (fail))
          refine wpQuiet_nil ?_
          intro _ hw'
          obtain ⟨m0, hw''⟩ := hw'
          subst hw''
          have hB1 := HFB.out m0
          clear p0 q0 p1 q1 hne
          obtain ⟨W1, hW1⟩ : ∃ W1, W1 = F m0 := ⟨_, rfl⟩
          rw [← hW1] at hB1 ⊢
          have HB := Lib.hid (hbw.out.trans (hB1.mono hbw.out.size))
          clear hW1 HFB HF0 hB1
        · have hpe : p = q := of_decide_eq_true HPQ.out
          subst hpe
          have HT := Lib.hid (take_next htk.out HP.out HQ.out)
          go_wp2_with fail
          go_roundw
          case rel => exact ⟨k + 1, by go_num, hlt, HT, HB⟩
          case measure => simp [intOf]; omega
        · have HE := Lib.hid (show R = false by
            rw [HRR.out, decide_eq_false_iff_not]
            intro e
            have h1 := HP.out
            rw [e, HQ.out] at h1
            exact of_decide_eq_false HPQ.out (Option.some.inj h1).symm)
          go_wp2_with fail
          go_ret
          exact ⟨by rw [HE.out]; rfl, HB.out⟩
      · have HE := Lib.hid (show R = true by
          have := htk.out
          rw [List.take_of_length_le (by rw [← HN.out]; omega), List.take_of_length_le (by rw [← HM.out]; omega)] at this
          rw [HRR.out]; simpa using this)
        go_wp2_with fail
        go_ret
        exact ⟨by rw [HE.out]; rfl, hbw.out⟩
  · have hnf : ((n : Int) != m) = true := by simp; omega
    have hnf2 : ((n : Int) == m) = false := beq_eq_false_iff_ne.2 (by omega)
    have HE := Lib.hid (show R = false by
      rw [hR, decide_eq_false_iff_not]
      intro e; apply hnm; rw [hnn, hmm, e])
    clear hr hr' hnn hmm hR
    go_enter Tryz.func50, Tryz.ntmps50
    go_wp2_with fail
    go_ret
    exact ⟨by rw [HE.out]; rfl, Below.refl _ _⟩
set_option maxRecDepth 100000 in
set_option maxHeartbeats 4000000 in
theorem same_any (w : World) (a a' : Option Addr) (c c' : Nat) (ps qs : List Pr) (hr : RdFl w a ps) (hr' : RdFl w a' qs) (hl : ps.length ≤ 1000000) (hl' : qs.length ≤ 1000000) :
    Calls Tryz.prog 10 #[.agg #[.slice a ps.length c], .agg #[.slice a' qs.length c']] w (fun e w' => e = .returned (.bool (decide (ps = qs))) ∧ Below w.heap.size w w') := by
  obtain ⟨n, hnn⟩ : ∃ n, n = ps.length := ⟨_, rfl⟩
  obtain ⟨m, hmm⟩ : ∃ m, m = qs.length := ⟨_, rfl⟩
  obtain ⟨R, hR⟩ : ∃ R, R = decide (ps = qs) := ⟨_, rfl⟩
  rw [← hnn, ← hmm, ← hR]
  obtain ⟨w1, hw1, hb1, hx1, hz1, hz2⟩ := new_cell w (.slice a n c) 24
  obtain ⟨w2, hw2, hb2, hx2, hz3, hz4⟩ := new_cell w1 (.slice a' m c') 24
  have hb12 := hb1.trans (hb2.mono hb1.size)
  have hx12 := (hb2.block _ (by omega)).trans hx1
  by_cases hnm : n = m
  · subst hnm
    have hnl : n ≤ 1000000 := by omega
    have hnf : ((n : Int) != n) = false := by simp
    have hkeep : ∀ W, Below w2.heap.size w2 W → W.cell? ⟨w.heap.size, 0, none⟩ = some (.slice a n c) ∧ W.cell? ⟨w1.heap.size, 0, none⟩ = some (.slice a' n c') := fun W h => ⟨cell_of_heap ((h.block _ (lt_of_heap hx12)).trans hx12) 0, cell_of_heap ((h.block _ (lt_of_heap hx2)).trans hx2) 0⟩
    have HKEEP := Lib.hid hkeep
    obtain ⟨k0, k1⟩ := hkeep w2 (Below.refl _ _)
    have HB12 := Lib.hid hb12
    have HR := Lib.hid (hr.below hb12); have HR' := Lib.hid (hr'.below hb12); have HN := Lib.hid hnn; have HM := Lib.hid hmm; have HRR := Lib.hid hR
    clear hr hr' hnn hmm hR hl hl' hkeep hb1 hb2 hx1 hx2 hz1 hz2 hz3 hz4 hb12 hx12
    go_enter Tryz.func10, Tryz.ntmps10
    go_wp2_with fail
    clear k0 k1
    go_loopw [16] (fun x wr => ∃ k : Nat, x = .int .i64 k ∧ k ≤ n ∧ Hid (ps.take k = qs.take k) ∧ Hid (Below w2.heap.size w2 wr)) (fun x _ => n - (intOf x).toNat)
    case atStart => exact ⟨0, rfl, Nat.zero_le _, rfl, Below.refl _ _⟩
    case round =>
      obtain ⟨k, rfl, hkn, htk, hbw⟩ := hrel
      by_cases hlt : k < n
      · obtain ⟨p, hp⟩ : ∃ p, ps[k]? = some p := ⟨_, List.getElem?_eq_getElem (by rw [← HN.out]; exact hlt)⟩
        obtain ⟨q, hq⟩ : ∃ q, qs[k]? = some q := ⟨_, List.getElem?_eq_getElem (by rw [← HM.out]; exact hlt)⟩
        obtain ⟨rb, o, rfl, _, hcs⟩ := HR.out.below hbw.out (fun e => by rw [e] at hp; cases hp)
        obtain ⟨rb', o', rfl, _, hcs'⟩ := HR'.out.below hbw.out (fun e => by rw [e] at hq; cases hq)
        obtain ⟨ι, F, hF0, hFB, hFG⟩ := below_fam wr
        have hcF : ∀ a v, wr.cell? a = some v → ∀ n, (F n).cell? a = some v := fun a v h n => below_keeps (hFB n) _ _ h
        have k0 := hcF _ _ (HKEEP.out _ hbw.out).1
        have k1 := hcF _ _ (HKEEP.out _ hbw.out).2
        have p0 := hcF _ _ (hcs k p hp).1
        have p1 := hcF _ _ (hcs k p hp).2
        have q0 := hcF _ _ (hcs' k q hq).1
        have q1 := hcF _ _ (hcs' k q hq).2
        obtain ⟨S1, hS1⟩ : ∃ S : ByteArray, S = ⟨p.1.toArray⟩ := ⟨_, rfl⟩
        obtain ⟨S2, hS2⟩ : ∃ S : ByteArray, S = ⟨p.2.toArray⟩ := ⟨_, rfl⟩
        obtain ⟨T1, hT1⟩ : ∃ S : ByteArray, S = ⟨q.1.toArray⟩ := ⟨_, rfl⟩
        obtain ⟨T2, hT2⟩ : ∃ S : ByteArray, S = ⟨q.2.toArray⟩ := ⟨_, rfl⟩
        have hne := fun W => neq_file W p q
        unfold strV at p0 p1 q0 q1 hne
        rw [← hS1] at p0 hne; rw [← hS2] at p1 hne; rw [← hT1] at q0 hne; rw [← hT2] at q1 hne
        have HF0 := Lib.hid hF0; have HFB := Lib.hid hFB; have HP := Lib.hid hp; have HQ := Lib.hid hq
        clear hF0 hFB hFG hcF hp hq hS1 hS2 hT1 hT2 hcs hcs'
        have hpq0 : decide (p = q) = true ∨ decide (p = q) = false := by cases decide (p = q) <;> simp
        rcases hpq0 with hpq | hpq
        all_goals
          rw [hpq] at hne
          have HPQ := Lib.hid hpq
          clear hpq
          go_wp2_with fail
          obtain ⟨n0, hn0⟩ := HF0.out 1
          have hnem : Nonempty ι := ⟨n0⟩
          refine wp_region_fam F n0 hn0 (by kernel_rfl) (by kernel_rfl) ?_
          repeat (go_big_quiet_step (fail))
          refine wpQuiet_nil ?_
          intro _ hw'
          obtain ⟨m0, hw''⟩ := hw'
          subst hw''
          have hB1 := HFB.out m0
          clear p0 q0 p1 q1 hne k0 k1
          obtain ⟨W1, hW1⟩ : ∃ W1, W1 = F m0 := ⟨_, rfl⟩
          rw [← hW1] at hB1 ⊢
          have HB := Lib.hid (hbw.out.trans (hB1.mono hbw.out.size))
          clear hW1 HFB HF0 hB1
        · have hpe : p = q := of_decide_eq_true HPQ.out
          subst hpe
          have HT := Lib.hid (take_next htk.out HP.out HQ.out)
          go_wp2_with fail
          go_roundw
          case rel => exact ⟨k + 1, by go_num, hlt, HT, HB⟩
          case measure => simp [intOf]; omega
        · have HE := Lib.hid (show R = false by
            rw [HRR.out, decide_eq_false_iff_not]
            intro e
            have h1 := HP.out
            rw [e, HQ.out] at h1
            exact of_decide_eq_false HPQ.out (Option.some.inj h1).symm)
          go_wp2_with fail
          go_ret
          exact ⟨by rw [HE.out]; rfl, HB12.out.trans (HB.out.mono HB12.out.size)⟩
      · have HE := Lib.hid (show R = true by
          have := htk.out
          rw [List.take_of_length_le (by rw [← HN.out]; omega), List.take_of_length_le (by rw [← HM.out]; omega)] at this
          rw [HRR.out]; simpa using this)
        go_wp2_with fail
        go_ret
        exact ⟨by rw [HE.out]; rfl, HB12.out.trans (hbw.out.mono HB12.out.size)⟩
  · have hnf : ((n : Int) != m) = true := by simp; omega
    have hnf2 : ((n : Int) == m) = false := beq_eq_false_iff_ne.2 (by omega)
    have HE := Lib.hid (show R = false by
      rw [hR, decide_eq_false_iff_not]
      intro e; apply hnm; rw [hnn, hmm, e])
    have k0 := cell_of_heap hx12 0
    have k1 := cell_of_heap hx2 0
    have HB12 := Lib.hid hb12
    clear hr hr' hnn hmm hR hb1 hb2 hx1 hx2 hz1 hz2 hz3 hz4 hb12 hx12
    go_enter Tryz.func10, Tryz.ntmps10
    go_wp2_with fail
    go_ret
    exact ⟨by rw [HE.out]; rfl, HB12.out⟩
end Go.Proofs.YtjcimajkjnjdpabGreatDoor
