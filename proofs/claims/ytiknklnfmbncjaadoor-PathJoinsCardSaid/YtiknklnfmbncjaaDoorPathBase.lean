/- DERIVED. The walk of path.Base. -/
import Derived.Test.YtiknklnfmbncjaaDoorPathUnder
import Derived.BigQuiet
namespace Go.Proofs.YtiknklnfmbncjaaDoor
open Go.RowKit
set_option linter.unusedVariables false

def lastI (l : List UInt8) : Int := match lastSlash l with | none => -1 | some i => i
theorem byte_at (S : ByteArray) (k : Nat) (hk : k < S.size) : S.data.toList[k]? = some (S[k]'hk) := by rw [List.getElem?_eq_getElem (by simp; exact hk)]; rfl
set_option maxHeartbeats 1000000 in
theorem lastS_any (S : ByteArray) (w : World) (hs : S.size ≤ 1000000) : Calls Tryd.prog 33 #[.string S, .int .u8 47] w (fun e w' => e = .returned (.int .i64 (lastI S.data.toList)) ∧ w = w') := by
  obtain ⟨R, hR⟩ : ∃ R, R = lastI S.data.toList := ⟨_, rfl⟩
  rw [← hR]
  have HR := Lib.hid hR; clear hR
  go_enter Tryd.func33, Tryd.ntmps33
  go_wp2
  go_loopw [5] (fun i wr => ∃ z : Int, i = .int .i64 z ∧ ((z = -1 ∧ Hid ((47 : UInt8) ∉ S.data.toList)) ∨ (∃ j : Nat, z = j ∧ j < S.size ∧ Hid ((47 : UInt8) ∉ S.data.toList.drop (j + 1)))) ∧ wr = w) (fun i _ => (intOf i + 1).toNat)
  case atStart =>
    refine ⟨_, rfl, ?_, rfl⟩
    by_cases h0 : S.size = 0
    · refine .inl ⟨by omega, ?_⟩
      have : S.data.toList = [] := List.eq_nil_of_length_eq_zero (by rw [show S.data.toList.length = S.size from by simp]; exact h0)
      show _ ∉ _
      rw [this]; simp
    · refine .inr ⟨S.size - 1, by omega, by omega, ?_⟩
      show _ ∉ _
      rw [List.drop_of_length_le (by simp; omega)]; simp
  case round =>
    obtain ⟨z, rfl, hz, rfl⟩ := hrel
    rcases hz with ⟨rfl, hn⟩ | ⟨j, rfl, hj, hn⟩
    · have e1 : R = -1 := by rw [HR.out]; unfold lastI; rw [(lastSlash_none _).2 hn.out]
      subst e1
      go_wp2
      go_ret
      exact ⟨rfl, rfl⟩
    · by_cases h47 : (S[j]'hj).toNat = 47
      · have h47' : ((S[j]'hj).toNat : Int) = 47 := by omega
        have e1 : R = j := by
          rw [HR.out]; unfold lastI
          rw [lastSlash_is _ j (by rw [byte_at S j hj, Option.some.injEq, ← UInt8.toNat_inj]; exact h47) hn.out]
        subst e1
        clear h47
        go_wp2
        go_ret
        exact ⟨rfl, rfl⟩
      · have h47' : ¬ ((S[j]'hj).toNat : Int) = 47 := by omega
        have hn2 : (47 : UInt8) ∉ S.data.toList.drop j := by
          rw [List.drop_eq_getElem_cons (by simp; exact hj)]
          intro h
          rcases List.mem_cons.1 h with h | h
          · apply h47
            have := congrArg UInt8.toNat h
            exact this.symm
          · exact hn.out h
        have HN := Lib.hid hn2; clear hn2 h47
        go_wp2
        go_roundw
        case rel =>
          refine ⟨_, rfl, ?_, by trivial⟩
          cases j with
          | zero => exact .inl ⟨by omega, HN⟩
          | succ j => exact .inr ⟨j, by omega, by omega, HN⟩
        case measure => simp [intOf]
set_option maxHeartbeats 1000000 in
theorem last_any (S : ByteArray) (w : World) (hs : S.size ≤ 1000000) : Calls Tryd.prog 28 #[.string S, .int .u8 47] w (fun e w' => e = .returned (.int .i64 (lastI S.data.toList)) ∧ w = w') := by
  have hG := lastS_any S w hs
  obtain ⟨R, hR⟩ : ∃ R, R = lastI S.data.toList := ⟨_, rfl⟩
  rw [← hR] at hG ⊢
  have HG := Lib.hid hG; clear hG hR
  go_enter Tryd.func28, Tryd.ntmps28
  go_wp2_with fail
  refine HG.out.mono ?_
  rintro e w' ⟨rfl, rfl⟩
  go_wp2
  go_ret
  exact ⟨rfl, rfl⟩
set_option maxHeartbeats 1000000 in
theorem base_any (S : ByteArray) (w : World) (hs : S.size ≤ 100000) : Calls Tryd.prog 18 #[.string S] w (fun e w' => e = .returned (.tuple #[strV (baseP S.data.toList).1, strV (baseP S.data.toList).2]) ∧ Below w.heap.size w w') := by
  have hG := good_any S w (by omega)
  have hL := fun W => last_any S W (by omega)
  cases hg : goodB S.data.toList
  · rw [hg] at hG
    rw [show baseP S.data.toList = ([], []) from by unfold baseP; rw [hg]; rfl]
    dsimp only
    unfold strV
    have HG := Lib.hid hG; clear hG hL hg
    go_enter Tryd.func18, Tryd.ntmps18
    go_wp2_with fail
    refine HG.out.mono ?_
    rintro e w' ⟨rfl, h1⟩
    have H1 := Lib.hid h1; clear h1
    go_wp2
    go_ret2
    exact ⟨rfl, H1.out⟩
  · rw [hg] at hG
    cases hl : lastSlash S.data.toList with
    | none =>
      rw [show baseP S.data.toList = ([], S.data.toList) from by unfold baseP; rw [hg, hl]; rfl]
      dsimp only
      have e1 : lastI S.data.toList = -1 := by unfold lastI; rw [hl]
      have e2 : S.extract 0 S.size = S := by
        rw [ByteArray.ext_iff, ByteArray.data_extract]; simp
      rw [e1] at hL
      rw [← strV_of (B := S) rfl]
      unfold strV
      have HG := Lib.hid hG; have HL := Lib.hid hL; have HE := Lib.hid e2; clear hG hL hg hl e1 e2
      go_enter Tryd.func18, Tryd.ntmps18
      go_wp2_with fail
      refine HG.out.mono ?_
      rintro e w' ⟨rfl, h1⟩
      have H1 := Lib.hid h1; clear h1
      go_wp2_with fail
      refine (HL.out w').mono ?_
      rintro e w2 ⟨rfl, rfl⟩
      go_wp2
      go_region
      go_wp2
      go_ret2
      refine ⟨?_, H1.out.drew⟩
      rfl
    | some i =>
      obtain ⟨g1, g2⟩ := lastSlash_some _ i hl
      have hi : i < S.size := by
        have := (List.getElem?_eq_some_iff.1 g1).1
        simpa using this
      rw [show baseP S.data.toList = (S.data.toList.take i, S.data.toList.drop (i + 1)) from by unfold baseP; rw [hg, hl]; rfl]
      dsimp only
      have e1 : lastI S.data.toList = i := by unfold lastI; rw [hl]
      rw [e1] at hL
      rw [← strV_of (ext_take S i), ← strV_of (ext_drop S (i + 1))]
      have hmax : max (i : Int) 0 = i := by omega
      have HG := Lib.hid hG; have HL := Lib.hid hL; clear hG hL hg hl e1 g1 g2
      go_enter Tryd.func18, Tryd.ntmps18
      go_wp2_with fail
      refine HG.out.mono ?_
      rintro e w' ⟨rfl, h1⟩
      have H1 := Lib.hid h1; clear h1
      go_wp2_with fail
      refine (HL.out w').mono ?_
      rintro e w2 ⟨rfl, rfl⟩
      go_wp2
      go_region
      go_wp2
      go_ret2
      refine ⟨?_, H1.out.drew⟩
      rfl
end Go.Proofs.YtiknklnfmbncjaaDoor
