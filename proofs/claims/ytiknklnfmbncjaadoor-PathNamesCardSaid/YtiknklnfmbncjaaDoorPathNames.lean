/- DERIVED. PathNames: the law's walk. -/
import Derived.Test.YtiknklnfmbncjaaDoorPathRefName
namespace Go.Proofs.YtiknklnfmbncjaaDoor
open Go.RowKit
set_option linter.unusedVariables false

set_option maxRecDepth 100000 in
set_option maxHeartbeats 4000000 in
theorem names_law (S : ByteArray) (w : World) : Calls Tryd.prog 5 #[.string S] w (fun e w' => e = .returned (.bool true) ∧ Below w.heap.size w w') := by
  have HA := Lib.hid (alive_any w)
  by_cases hS : S.size ≤ 4096
  case neg =>
    go_enter Tryd.func5, Tryd.ntmps5
    go_wp2_with fail
    refine HA.out.mono ?_
    rintro e w1 ⟨rfl, g1⟩
    have G1 := Lib.hid g1; clear g1
    go_wp2
    go_ret
    exact ⟨rfl, G1.out⟩
  have hN := fun W => name_any S W (by omega)
  have hG := fun W => good_any S W (by omega)
  have hRN := fun W => rname_any S W (by omega)
  have hRG := fun W => rgood_any S W (by omega)
  have hP := fun W => parts_any S W (by omega)
  have hRP := fun W => rpieces_any S W (by omega)
  obtain ⟨ps, hps⟩ : ∃ ps, ps = pieces S.data.toList := ⟨_, rfl⟩
  have hpp : partsP S.data.toList = if goodB S.data.toList = true then ps else [] := by rw [hps]; rfl
  rw [hpp] at hP
  rw [← hps] at hRP
  obtain ⟨n, hn⟩ : ∃ n, n = ps.length := ⟨_, rfl⟩
  have hnb : n ≤ 5000 := by
    have := pieces_len S.data.toList
    rw [show S.data.toList.length = S.size from by simp] at this
    rw [hn, hps]; omega
  have hne : ps ≠ [] := by rw [hps]; exact pieces_ne _
  obtain ⟨nb, hnb'⟩ : ∃ b, b = nameB S.data.toList := ⟨_, rfl⟩
  obtain ⟨gb, hgb⟩ : ∃ b, b = goodB S.data.toList := ⟨_, rfl⟩
  rw [← hnb'] at hN hRN
  rw [← hgb] at hG hRG hP
  have HN := Lib.hid hN; have HG := Lib.hid hG; have HRN := Lib.hid hRN; have HRG := Lib.hid hRG; have HRP := Lib.hid hRP
  have HNN := Lib.hid hn; have HNE := Lib.hid hne
  clear hN hG hRN hRG hRP hpp hps hnb' hgb hn hne
  cases gb
  · rw [if_neg (by simp)] at hP
    have hP2 : ∀ W, Calls Tryd.prog 14 #[.string S] W fun e w' => ∃ a c, e = .returned (.slice a 0 c) ∧ Below W.heap.size W w' := fun W => (hP W).mono fun e w' ⟨a, c, h1, _, h2⟩ => ⟨a, c, h1, h2⟩
    have HP := Lib.hid hP2
    clear hP hP2
    cases nb
    all_goals
      go_enter Tryd.func5, Tryd.ntmps5
      go_wp2_with fail
      refine HA.out.mono ?_
      rintro e w1 ⟨rfl, g1⟩
      have G1 := Lib.hid g1; clear g1
      go_wp2_with fail
      refine (HN.out w1).mono ?_
      rintro e w2 ⟨rfl, g2⟩
      have G2 := Lib.hid (G1.out.trans (g2.mono G1.out.size)); clear g2
      go_wp2_with fail
      refine (HRN.out w2).mono ?_
      rintro e w3 ⟨rfl, rfl⟩
      go_wp2_with fail
      refine (HG.out w2).mono ?_
      rintro e w4 ⟨rfl, g4⟩
      have G4 := Lib.hid (G2.out.trans (g4.mono G2.out.size)); clear g4
      go_wp2_with fail
      refine (HRG.out w4).mono ?_
      rintro e w5 ⟨rfl, g5⟩
      have G5 := Lib.hid (G4.out.trans (g5.mono G4.out.size)); clear g5
      go_wp2_with fail
      refine (HP.out w5).mono ?_
      rintro e w6 ⟨a, c, rfl, g6⟩
      have G6 := Lib.hid (G5.out.trans (g6.mono G5.out.size)); clear g6
      go_wp2_with fail
      refine (HG.out w6).mono ?_
      rintro e w7 ⟨rfl, g7⟩
      have G7 := Lib.hid (G6.out.trans (g7.mono G6.out.size)); clear g7
      go_wp2
      go_ret
      exact ⟨rfl, G7.out⟩
  · rw [if_pos rfl] at hP
    have HP := Lib.hid hP
    clear hP
    cases nb
    all_goals
      go_enter Tryd.func5, Tryd.ntmps5
      go_wp2_with fail
      refine HA.out.mono ?_
      rintro e w1 ⟨rfl, g1⟩
      have G1 := Lib.hid g1; clear g1
      go_wp2_with fail
      refine (HN.out w1).mono ?_
      rintro e w2 ⟨rfl, g2⟩
      have G2 := Lib.hid (G1.out.trans (g2.mono G1.out.size)); clear g2
      go_wp2_with fail
      refine (HRN.out w2).mono ?_
      rintro e w3 ⟨rfl, rfl⟩
      go_wp2_with fail
      refine (HG.out w2).mono ?_
      rintro e w4 ⟨rfl, g4⟩
      have G4 := Lib.hid (G2.out.trans (g4.mono G2.out.size)); clear g4
      go_wp2_with fail
      refine (HRG.out w4).mono ?_
      rintro e w5 ⟨rfl, g5⟩
      have G5 := Lib.hid (G4.out.trans (g5.mono G4.out.size)); clear g5
      go_wp2_with fail
      refine (HP.out w5).mono ?_
      rintro e w6 ⟨a, c, rfl, r6, g6⟩
      have G6 := Lib.hid (G5.out.trans (g6.mono G5.out.size)); have R6 := Lib.hid r6; clear g6 r6
      go_wp2_with fail
      refine (HG.out w6).mono ?_
      rintro e w7 ⟨rfl, g7⟩
      have R7 := Lib.hid (R6.out.below g7)
      have G7 := Lib.hid (G6.out.trans (g7.mono G6.out.size)); clear g7
      go_wp2_with fail
      refine (HRP.out w7).mono ?_
      rintro e w8 ⟨a2, c2, rfl, r8, g8⟩
      obtain ⟨b1, o1, rfl, q1⟩ := (R7.out.below g8) HNE.out
      obtain ⟨b2, o2, rfl, q2⟩ := r8 HNE.out
      have Q1 := Lib.hid q1; have Q2 := Lib.hid q2
      have G8 := Lib.hid (G7.out.trans (g8.mono G7.out.size)); clear g8 r8 q1 q2 G1 G2 G4 G5 G6 G7 R6 R7
      rw [← HNN.out]
      go_wp2
      go_loopw [35] (fun i wr => ∃ k : Nat, i = .int .i64 k ∧ k ≤ n ∧ Hid (Below w8.heap.size w8 wr)) (fun i _ => n - (intOf i).toNat)
      case atStart => exact ⟨0, rfl, Nat.zero_le _, Below.refl _ w8⟩
      case round =>
        obtain ⟨k, rfl, hk, hbw⟩ := hrel
        by_cases hlt : k < n
        · obtain ⟨p, hp⟩ : ∃ p, ps[k]? = some p := ⟨_, List.getElem?_eq_getElem (by rw [← HNN.out]; exact hlt)⟩
          have z1 := below_keeps hbw.out _ _ (Q1.out k p hp)
          have z2 := below_keeps hbw.out _ _ (Q2.out k p hp)
          obtain ⟨T, hT⟩ : ∃ T : ByteArray, T = ⟨p.toArray⟩ := ⟨_, rfl⟩
          rw [← hT] at z1 z2
          have hd : decide ((n : Int) ≤ (k : Int)) = false := by simp; omega
          clear hT hp
          go_wp2_with fail
          go_quiet (fail)
          go_wp2_with fail
          go_roundw
          case rel => exact ⟨k + 1, by go_num, hlt, Below.drewN hbw.out _⟩
          case measure => simp [intOf]; omega
        · obtain rfl : k = n := by omega
          go_wp2
          go_ret
          exact ⟨rfl, G8.out.trans (hbw.out.mono G8.out.size)⟩
end Go.Proofs.YtiknklnfmbncjaaDoor
