/- DERIVED. The reference's Name and Good. -/
import Derived.Test.YtjcimajkjnjdpabGreatDoorPathPiecesV
namespace Go.Proofs.YtjcimajkjnjdpabGreatDoor
open Go.RowKit
set_option linter.unusedVariables false

theorem nameB_bad {l : List UInt8} {k : Nat} {c : UInt8} (h : l[k]? = some c) (hc : okB c = false) : nameB l = false := by
  unfold nameB
  rw [all_bad h hc, Bool.and_false]
theorem nameB_dot {l : List UInt8} (h : l[0]? = some 46) : nameB l = false := by
  unfold nameB
  rw [List.head?_eq_getElem?, h]; simp
theorem nameB_full {l : List UInt8} (h : l.all okB = true) (h0 : 0 < l.length → l[0]? ≠ some 46) : nameB l = (decide (1 ≤ l.length) && decide (l.length ≤ 32)) := by
  unfold nameB
  rw [h, List.head?_eq_getElem?]
  cases l with
  | nil => rfl
  | cons c r =>
    have := h0 (by simp)
    have e : ((c :: r)[0]? != some 46) = true := by simpa using this
    rw [e]; simp
theorem ret_bool {b v : Bool} (h : b = v) : Ending.returned (Value.bool b) = Ending.returned (Value.bool v) := by rw [h]
set_option maxRecDepth 100000 in
set_option maxHeartbeats 4000000 in
theorem rname_any (S : ByteArray) (w : World) (hs : S.size ≤ 1000000) : Calls Tryz.prog 81 #[.string S] w (fun e w' => e = .returned (.bool (nameB S.data.toList)) ∧ w = w') := by
  obtain ⟨R, hR⟩ : ∃ R, R = nameB S.data.toList := ⟨_, rfl⟩
  rw [← hR]
  have HR := Lib.hid hR; clear hR
  have hsl : S.data.toList.length = S.size := by simp
  have HSL := Lib.hid hsl; clear hsl
  go_enter Tryz.func81, Tryz.ntmps81
  go_wp2
  go_loopw [3] (fun i wr => ∃ k : Nat, i = .int .i64 k ∧ k ≤ S.size ∧ Hid ((S.data.toList.take k).all okB = true) ∧ Hid (0 < k → S.data.toList[0]? ≠ some 46) ∧ wr = w) (fun i _ => S.size - (intOf i).toNat)
  case atStart => exact ⟨0, rfl, Nat.zero_le _, rfl, fun h => absurd h (Nat.lt_irrefl _), rfl⟩
  case round =>
    obtain ⟨k, rfl, hk, hall, hdot, rfl⟩ := hrel
    by_cases hlt : k < S.size
    · have hget := byte_at S k hlt
      have hok := okR_byte (S[k]'hlt)
      obtain ⟨z, hz⟩ : ∃ z : Int, ((S[k]'hlt).toNat : Int) = z := ⟨_, rfl⟩
      rw [hz] at hok
      have h46 : z = 46 → S[k]'hlt = 46 := by intro h; rw [← UInt8.toNat_inj]; show _ = 46; omega
      have h46' : z ≠ 46 → S[k]'hlt ≠ 46 := by intro h e; rw [e] at hz; exact h hz.symm
      have hgo : okR z = true → (k = 0 → z ≠ 46) → (S.data.toList.take (k + 1)).all okB = true ∧ (0 < k + 1 → S.data.toList[0]? ≠ some 46) := by
        intro h1 h2
        refine ⟨all_take hall.out hget (by rw [← hok]; exact h1), fun _ => ?_⟩
        by_cases h0 : k = 0
        · subst h0
          rw [hget]
          intro e
          exact h46' (h2 rfl) (Option.some.inj e)
        · exact hdot.out (by omega)
      have hbad : okR z = false → R = false := by
        intro h; rw [HR.out]; exact nameB_bad hget (by rw [← hok]; exact h)
      have hbad0 : k = 0 → z = 46 → R = false := by
        intro h0 h
        subst h0
        rw [HR.out]; exact nameB_dot (by rw [hget, h46 h])
      have HGO := Lib.hid hgo; have HBAD := Lib.hid hbad; have HB0 := Lib.hid hbad0
      have hzb : 0 ≤ z ∧ z ≤ 255 := by have := (S[k]'hlt).toNat_lt; omega
      clear hget hok h46 h46' hgo hbad hbad0
      rcases (show ((97 ≤ z ∧ z ≤ 122) ∨ (48 ≤ z ∧ z ≤ 57) ∨ z = 45 ∨ z = 95 ∨ (z = 46 ∧ 0 < k)) ∨ ((z = 46 ∧ k = 0) ∨ (z < 48 ∧ z ≠ 45 ∧ z ≠ 46) ∨ (57 < z ∧ z < 97 ∧ z ≠ 95) ∨ 122 < z) from by omega) with hgood | hb
      · have hg : okR z = true := by unfold okR; simp; omega
        have G := Lib.hid (HGO.out hg (by omega))
        clear hg
        rcases hgood with h | h | rfl | rfl | ⟨rfl, hk0⟩
        all_goals
          go_wp2
          go_roundw
          case rel => exact ⟨k + 1, by go_num, hlt, G.out.1, G.out.2, by trivial⟩
          case measure => simp [intOf]; omega
      · rcases hb with ⟨rfl, rfl⟩ | ⟨h1, h2, h3⟩ | ⟨h1, h2, h3⟩ | h1
        · obtain rfl := HB0.out rfl rfl
          go_wp2
          go_ret
          exact ⟨rfl, rfl⟩
        · obtain rfl := HBAD.out (by unfold okR; simp; omega)
          have n1 : (z != 45) = true := by simpa using h2
          have n2 : (z != 46) = true := by simpa using h3
          have n3 : (z != 95) = true := by simp; omega
          have n4 : decide (48 ≤ z) = false := by simp; omega
          have n5 : decide (97 ≤ z) = false := by simp; omega
          go_wp2
          go_ret
          exact ⟨rfl, rfl⟩
        · obtain rfl := HBAD.out (by unfold okR; simp; omega)
          have n1 : (z != 45) = true := by simp; omega
          have n2 : (z != 46) = true := by simp; omega
          have n3 : (z != 95) = true := by simpa using h3
          have n4 : decide (z ≤ 57) = false := by simp; omega
          have n5 : decide (97 ≤ z) = false := by simp; omega
          go_wp2
          go_ret
          exact ⟨rfl, rfl⟩
        · obtain rfl := HBAD.out (by unfold okR; simp; omega)
          have n1 : (z != 45) = true := by simp; omega
          have n2 : (z != 46) = true := by simp; omega
          have n3 : (z != 95) = true := by simp; omega
          have n4 : decide (z ≤ 57) = false := by simp; omega
          have n5 : decide (z ≤ 122) = false := by simp; omega
          go_wp2
          go_ret
          exact ⟨rfl, rfl⟩
    · obtain rfl : k = S.size := by omega
      have hR : R = (decide (1 ≤ S.size) && decide (S.size ≤ 32)) := by
        rw [HR.out, nameB_full (by have := hall.out; rwa [List.take_of_length_le (by rw [HSL.out]; exact Nat.le_refl _)] at this) (by rw [HSL.out]; exact hdot.out), HSL.out]
      have HR2 := Lib.hid hR; clear hR
      by_cases h1 : 1 ≤ S.size
      · by_cases h2 : S.size ≤ 32
        · have e1 : R = true := by rw [HR2.out]; simp [h1, h2]
          subst e1
          go_wp2
          go_ret
          refine ⟨ret_bool ?_, rfl⟩
          first | rfl | (simp; omega)
        · have e1 : R = false := by rw [HR2.out]; simp [h2]
          subst e1
          go_wp2
          go_ret
          refine ⟨ret_bool ?_, rfl⟩
          first | rfl | (simp; omega)
      · have e1 : R = false := by rw [HR2.out]; simp [h1]
        subst e1
        go_wp2
        go_ret
        refine ⟨ret_bool ?_, rfl⟩
        first | rfl | (simp; omega)
set_option maxHeartbeats 2000000 in
theorem rgood_any (S : ByteArray) (w : World) (hs : S.size ≤ 900000) : Calls Tryz.prog 62 #[.string S] w (fun e w' => e = .returned (.bool (goodB S.data.toList)) ∧ Below w.heap.size w w') := by
  obtain ⟨ps, hps⟩ : ∃ ps, ps = pieces S.data.toList := ⟨_, rfl⟩
  have hsl : S.size = S.data.toList.length := by simp
  have hple : ∀ p ∈ ps, p.length ≤ 1000000 := fun p hp => by have := pieces_le S.data.toList p (by rw [← hps]; exact hp); omega
  obtain ⟨n, hnn⟩ : ∃ n, n = ps.length := ⟨_, rfl⟩
  have hpn : n ≤ 1000000 := by have := pieces_len S.data.toList; rw [hnn, hps]; omega
  have hgd : goodB S.data.toList = (decide (S.size ≤ 128) && decide (n ≤ 8) && ps.all nameB) := by unfold goodB; rw [hnn, hps, hsl]
  have hG := rpieces_any S w hs
  rw [← hps] at hG
  obtain ⟨R, hR⟩ : ∃ R, R = goodB S.data.toList := ⟨_, rfl⟩
  rw [hgd] at hR
  rw [hgd, ← hR]
  have hne : ps ≠ [] := by rw [hps]; exact pieces_ne _
  have HG := Lib.hid hG; have HR := Lib.hid hR; have HN := Lib.hid hnn; have HP := Lib.hid hple; have HNE := Lib.hid hne
  clear hG hR hgd hnn hple hsl hps hne
  by_cases h128 : S.size ≤ 128
  · go_enter Tryz.func62, Tryz.ntmps62
    go_wp2_with fail
    refine HG.out.mono ?_
    rintro e w1 ⟨a, c, rfl, h1, h2⟩
    have H1 := Lib.hid h1; have H2 := Lib.hid h2; clear h1 h2
    rw [← HN.out]
    go_wp2
    go_loopw [13] (fun i wr => ∃ k : Nat, i = .int .i64 k ∧ k ≤ n ∧ Hid ((ps.take k).all nameB = true) ∧ wr = w1) (fun i _ => n - (intOf i).toNat)
    case atStart => exact ⟨0, rfl, Nat.zero_le _, rfl, rfl⟩
    case round =>
      obtain ⟨k, rfl, hk, hall, rfl⟩ := hrel
      by_cases hlt : k < n
      · obtain ⟨p, hp⟩ : ∃ p, ps[k]? = some p := ⟨_, List.getElem?_eq_getElem (by rw [← HN.out]; exact hlt)⟩
        obtain ⟨B, o, rfl, hcs⟩ := H1.out HNE.out
        have hc0 := hcs k p hp
        have hpl := HP.out p (List.mem_of_getElem? hp)
        have hG := fun W => rname_any ⟨p.toArray⟩ W (by rw [str_size]; exact hpl)
        rw [show (⟨p.toArray⟩ : ByteArray).data.toList = p from rfl] at hG
        obtain ⟨T, hT⟩ : ∃ T : ByteArray, T = ⟨p.toArray⟩ := ⟨_, rfl⟩
        rw [← hT] at hG hc0
        have hPN : nameB p = true ∨ nameB p = false := by cases nameB p <;> simp
        have HP0 := Lib.hid hp
        clear hcs hp hT hpl
        rcases hPN with hb | hb
        · rw [hb] at hG
          have HGG := Lib.hid hG; have HB := Lib.hid hb
          clear hG hb
          go_wp2_with fail
          refine (HGG.out _).mono ?_
          rintro e w' ⟨rfl, rfl⟩
          go_wp2
          go_roundw
          case rel => exact ⟨k + 1, by go_num, hlt, all_next hall.out HP0.out HB.out, by trivial⟩
          case measure => simp [intOf]; omega
        · rw [hb] at hG
          have HGG := Lib.hid hG
          have e1 : R = false := by rw [HR.out, all_fails HP0.out hb, Bool.and_false]
          have HE := Lib.hid e1
          clear hG hb e1
          go_wp2_with fail
          refine (HGG.out _).mono ?_
          rintro e w' ⟨rfl, rfl⟩
          go_wp2
          go_ret
          refine ⟨?_, H2.out⟩
          rw [HE.out]; rfl
      · obtain rfl : k = n := by omega
        have ha : ps.all nameB = true := by
          have := hall.out
          rwa [List.take_of_length_le (by rw [← HN.out]; exact Nat.le_refl _)] at this
        have hR := HR.out
        rw [ha] at hR
        by_cases h8 : k ≤ 8
        · have e1 : R = true := by rw [hR]; simp [h128, h8]
          have HE := Lib.hid e1
          clear hR e1 ha
          go_wp2
          go_ret
          refine ⟨?_, H2.out⟩
          rw [HE.out]; refine ret_bool ?_; first | rfl | (simp; omega)
        · have e1 : R = false := by rw [hR]; simp [h8]
          have HE := Lib.hid e1
          clear hR e1 ha
          go_wp2
          go_ret
          refine ⟨?_, H2.out⟩
          rw [HE.out]; refine ret_bool ?_; first | rfl | (simp; omega)
  · have e1 : R = false := by rw [HR.out]; simp [h128]
    have HE := Lib.hid e1
    clear e1
    go_enter Tryz.func62, Tryz.ntmps62
    go_wp2
    go_ret
    refine ⟨?_, Below.refl _ w⟩
    rw [HE.out]; rfl
end Go.Proofs.YtjcimajkjnjdpabGreatDoor
