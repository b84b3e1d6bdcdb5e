/- DERIVED. PathLimits: the law's walk. -/
import Derived.Test.YtiknklnfmbncjaaDoorPathUnder
namespace Go.Proofs.YtiknklnfmbncjaaDoor
open Go.RowKit
set_option linter.unusedVariables false

theorem glue_more (p : List UInt8) : ∀ k : Nat, glue (List.replicate (k + 2) p) = glue (List.replicate (k + 1) p) ++ 47 :: p
  | 0 => rfl
  | k + 1 => by
    have ih := glue_more p k
    show p ++ 47 :: glue (List.replicate (k + 2) p) = (p ++ 47 :: glue (List.replicate (k + 1) p)) ++ 47 :: p
    rw [ih]; simp
theorem pieces_glue (p : List UInt8) (hp : (47 : UInt8) ∉ p) : ∀ k : Nat, pieces (glue (List.replicate (k + 1) p)) = List.replicate (k + 1) p
  | 0 => pieces_plain p hp
  | k + 1 => by
    rw [glue_more, pieces_at, pieces_glue p hp k, pieces_plain p hp]
    rw [List.replicate_succ' (n := k + 1)]
theorem glue_len (p : List UInt8) : ∀ k : Nat, (glue (List.replicate (k + 1) p)).length + 1 = (k + 1) * (p.length + 1)
  | 0 => by show p.length + 1 = _; omega
  | k + 1 => by
    rw [glue_more]
    have ih := glue_len p k
    rw [List.length_append, List.length_cons, Nat.add_mul (k + 1) 1 (p.length + 1)]
    omega
theorem name_rep (m : Nat) (hm : 1 ≤ m) : nameB (List.replicate m 110) = decide (m ≤ 32) := by
  unfold nameB
  obtain ⟨j, rfl⟩ : ∃ j, m = j + 1 := ⟨m - 1, by omega⟩
  have e1 : (List.replicate (j + 1) (110 : UInt8)).all okB = true := by
    rw [List.all_eq_true]
    intro x hx
    rw [(List.mem_replicate.1 hx).2]; rfl
  rw [e1]
  simp [List.replicate_succ]
theorem good_rep (n m : Nat) (hn : 1 ≤ n) (hm : 1 ≤ m) : goodB (glue (List.replicate n (List.replicate m 110))) = (decide (n * m + n ≤ 129) && decide (n ≤ 8) && decide (m ≤ 32)) := by
  obtain ⟨k, rfl⟩ : ∃ k, n = k + 1 := ⟨n - 1, by omega⟩
  unfold goodB
  rw [pieces_glue _ (by intro h; have := (List.mem_replicate.1 h).2; revert this; decide)]
  have h1 := glue_len (List.replicate m (110 : UInt8)) k
  rw [List.length_replicate, Nat.mul_add, Nat.mul_one] at h1
  have e1 : (List.replicate (k + 1) (List.replicate m (110 : UInt8))).all nameB = decide (m ≤ 32) := by
    rw [Bool.eq_iff_iff, List.all_eq_true, ← name_rep m hm]
    constructor
    · intro h; exact h _ (by simp)
    · intro h x hx
      rw [(List.mem_replicate.1 hx).2]; exact h
  rw [e1, List.length_replicate]
  congr 2
  rw [decide_eq_decide]
  omega
set_option maxHeartbeats 2000000 in
theorem limits_law (N M : Int) (w : World) : Calls Tryd.prog 4 #[.int .i64 N, .int .i64 M] w (fun e w' => e = .returned (.bool true) ∧ Below w.heap.size w w') := by
  have HA := Lib.hid (alive_any w)
  have fin : ∀ b : Bool, b = true → Ending.returned (Value.bool b) = Ending.returned (Value.bool true) := by rintro b rfl; rfl
  rcases (show N < 1 ∨ (1 ≤ N ∧ 20 < N) ∨ ((1 ≤ N ∧ N ≤ 20) ∧ M < 1) ∨ ((1 ≤ N ∧ N ≤ 20) ∧ 1 ≤ M ∧ 140 < M) ∨ ((1 ≤ N ∧ N ≤ 20) ∧ 1 ≤ M ∧ M ≤ 140) from by omega) with h | h | h | h | ⟨⟨h1, h2⟩, h3, h4⟩
  case inr.inr.inr.inr =>
    obtain ⟨n, rfl⟩ : ∃ n : Nat, N = n := ⟨N.toNat, by omega⟩
    obtain ⟨m, rfl⟩ : ∃ m : Nat, M = m := ⟨M.toNat, by omega⟩
    have hn1 : 1 ≤ n := by omega
    have hn2 : n ≤ 20 := by omega
    have hm1 : 1 ≤ m := by omega
    have hm2 : m ≤ 140 := by omega
    clear h1 h2 h3 h4
    go_enter Tryd.func4, Tryd.ntmps4
    go_wp2_with fail
    refine HA.out.mono ?_
    rintro e w1 ⟨rfl, g1⟩
    have G1 := Lib.hid g1; clear g1
    go_wp2_with fail
    go_loopw [5, 6] (fun x i wr => ∃ (k : Nat) (O : ByteArray), x = .string O ∧ i = .int .i64 k ∧ k ≤ m ∧ O.size = k ∧ Hid (O.data.toList = List.replicate k 110) ∧ wr = w1) (fun _ i _ => m - (intOf i).toNat)
    case atStart => exact ⟨0, ⟨#[]⟩, rfl, rfl, Nat.zero_le _, rfl, rfl, rfl⟩
    case round =>
      obtain ⟨k, O, rfl, rfl, hk, hO, hol, rfl⟩ := hrel
      by_cases hlt : k < m
      · go_wp2
        go_roundw
        case rel =>
          refine ⟨k + 1, O ++ ⟨#[110]⟩, rfl, by go_num, hlt, ?_, ?_, by trivial⟩
          · rw [ByteArray.size_append, hO]; rfl
          · rw [ByteArray.data_append, Array.toList_append, hol.out, List.replicate_succ']
            exact rfl
        case measure => simp [intOf]; omega
      · obtain rfl : k = m := by omega
        go_wp2_with fail
        go_loopw [7, 8] (fun x i wr2 => ∃ (j : Nat) (T : ByteArray), x = .string T ∧ i = .int .i64 (j + 1) ∧ j + 1 ≤ n ∧ T.size ≤ 141 * (j + 1) ∧ Hid (T.data.toList = glue (List.replicate (j + 1) (List.replicate k 110))) ∧ wr2 = wr) (fun _ i _ => n - (intOf i).toNat)
        case atStart => exact ⟨0, O, rfl, rfl, hn1, by omega, hol.out, rfl⟩
        case round =>
          obtain ⟨j, T, rfl, rfl, hj, hT, htl, rfl⟩ := hrel
          by_cases hlt2 : j + 1 < n
          · go_wp2
            go_roundw
            case rel =>
              refine ⟨j + 1, T ++ ⟨#[47]⟩ ++ O, rfl, by go_num, hlt2, ?_, ?_, by trivial⟩
              · rw [ByteArray.size_append, ByteArray.size_append, hO]
                show T.size + 1 + k ≤ _
                omega
              · show _ = _
                rw [ByteArray.data_append, Array.toList_append, ByteArray.data_append, Array.toList_append, htl.out, hol.out, glue_more]
                simp
            case measure => simp [intOf]; omega
          · obtain rfl : n = j + 1 := by omega
            have hG := fun W => good_any T W (by omega)
            have hNm := fun W => name_any O W (by omega)
            rw [htl.out, good_rep (j + 1) k hn1 hm1] at hG
            rw [hol.out, name_rep k hm1] at hNm
            obtain ⟨p, hp⟩ : ∃ p, p = (j + 1) * k := ⟨_, rfl⟩
            rw [← hp] at hG
            have hpb : p ≤ 2800 := by rw [hp]; exact Nat.le_trans (Nat.mul_le_mul hn2 hm2) (by decide)
            have hpi : ((j : Int) + 1) * (k : Int) = (p : Int) := by rw [hp]; simp
            obtain ⟨b, hb⟩ : ∃ b, b = (decide (p + (j + 1) ≤ 129) && decide (j + 1 ≤ 8) && decide (k ≤ 32)) := ⟨_, rfl⟩
            obtain ⟨c, hc⟩ : ∃ c, c = decide (k ≤ 32) := ⟨_, rfl⟩
            rw [← hb] at hG
            rw [← hc] at hNm
            have HG := Lib.hid hG; have HN := Lib.hid hNm; have HP := Lib.hid hp
            have key : (b = false ∧ c = true ∧ 8 < j + 1 ∧ k ≤ 32) ∨ (b = false ∧ c = false ∧ 8 < j + 1 ∧ 32 < k) ∨ (b = false ∧ c = false ∧ j + 1 ≤ 8 ∧ 32 < k) ∨ (b = true ∧ c = true ∧ (j + 1 ≤ 8 ∧ k ≤ 32) ∧ p + (j + 1) ≤ 129) ∨ (b = false ∧ c = true ∧ (j + 1 ≤ 8 ∧ k ≤ 32) ∧ 129 < p + (j + 1)) := by
              by_cases q1 : j + 1 ≤ 8 <;> by_cases q2 : k ≤ 32 <;> by_cases q3 : p + (j + 1) ≤ 129 <;> simp [q1, q2, q3] at hb hc <;> subst hb hc <;> simp <;> omega
            clear hb hc hG hNm hp
            rcases key with ⟨rfl, rfl, q1, q2⟩ | ⟨rfl, rfl, q1, q2⟩ | ⟨rfl, rfl, q1, q2⟩ | ⟨rfl, rfl, q1, q2⟩ | ⟨rfl, rfl, q1, q2⟩
            all_goals
              go_wp2_with fail
              refine (HG.out wr).mono ?_
              rintro e w3 ⟨rfl, g3⟩
              have G3 := Lib.hid (G1.out.trans (g3.mono G1.out.size)); clear g3
              go_wp2_with fail
              refine (HN.out w3).mono ?_
              rintro e w4 ⟨rfl, g4⟩
              have G4 := Lib.hid (G3.out.trans (g4.mono G3.out.size)); clear g4
              go_wp2
              go_ret
              refine ⟨?_, G4.out⟩
              first | rfl | (refine fin _ ?_; simp; omega)
  all_goals
    go_enter Tryd.func4, Tryd.ntmps4
    go_wp2_with fail
    refine HA.out.mono ?_
    rintro e w1 ⟨rfl, g1⟩
    have G1 := Lib.hid g1; clear g1
    go_wp2
    go_ret
    exact ⟨rfl, G1.out⟩
end Go.Proofs.YtiknklnfmbncjaaDoor
