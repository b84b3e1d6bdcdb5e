/- DERIVED. PathUnder: 'alive', the law's walk. -/
import Derived.Test.YtiknklnfmbncjaaDoorPathUnderW
namespace Go.Proofs.YtiknklnfmbncjaaDoor
open Go.RowKit
set_option linter.unusedVariables false

set_option maxHeartbeats 1000000 in
theorem alive_any (w : World) : Calls Tryd.prog 8 #[] w (fun e w' => e = .returned (.bool true) ∧ Below w.heap.size w w') := by
  have h1 := fun W => join_any ⟨#[97]⟩ ⟨#[98, 47, 99]⟩ W (by decide) (by decide)
  have h2 := fun W => under_any ⟨#[97]⟩ ⟨#[97, 47, 98, 47, 99]⟩ W (by decide) (by decide)
  have h3 := fun W => under_any ⟨#[97]⟩ ⟨#[97, 98]⟩ W (by decide) (by decide)
  have h4 := fun W => good_any ⟨#[46, 120]⟩ W (by decide)
  rw [show joinP (ByteArray.mk #[97]).data.toList (ByteArray.mk #[98, 47, 99]).data.toList = ([97, 47, 98, 47, 99], 0) from by decide +kernel] at h1
  rw [show underP (ByteArray.mk #[97]).data.toList (ByteArray.mk #[97, 47, 98, 47, 99]).data.toList = ([98, 47, 99], true) from by decide +kernel] at h2
  rw [show underP (ByteArray.mk #[97]).data.toList (ByteArray.mk #[97, 98]).data.toList = ([], false) from by decide +kernel] at h3
  rw [show goodB (ByteArray.mk #[46, 120]).data.toList = false from by decide +kernel] at h4
  dsimp only at h1 h2 h3
  rw [show strV [97, 47, 98, 47, 99] = .string ⟨#[97, 47, 98, 47, 99]⟩ from rfl] at h1
  rw [show strV [98, 47, 99] = .string ⟨#[98, 47, 99]⟩ from rfl] at h2
  rw [show strV [] = .string ⟨#[]⟩ from rfl] at h3
  have H1 := Lib.hid h1; have H2 := Lib.hid h2; have H3 := Lib.hid h3; have H4 := Lib.hid h4
  clear h1 h2 h3 h4
  go_enter Tryd.func8, Tryd.ntmps8
  go_wp2_with fail
  refine (H1.out w).mono ?_
  rintro e w1 ⟨rfl, g1⟩
  have G1 := Lib.hid g1; clear g1
  go_wp2_with fail
  refine (H2.out w1).mono ?_
  rintro e w2 ⟨rfl, g2⟩
  have G2 := Lib.hid (G1.out.trans (g2.mono G1.out.size)); clear g2
  go_wp2_with fail
  refine (H3.out w2).mono ?_
  rintro e w3 ⟨rfl, g3⟩
  have G3 := Lib.hid (G2.out.trans (g3.mono G2.out.size)); clear g3
  go_wp2_with fail
  refine (H4.out w3).mono ?_
  rintro e w4 ⟨rfl, g4⟩
  have G4 := Lib.hid (G3.out.trans (g4.mono G3.out.size)); clear g4
  go_wp2
  go_ret
  exact ⟨rfl, G4.out⟩
/-- Whether a place stands ahead of one of the first k strokes' bytes, or is nothing. -/
def wantB (d s : List UInt8) : Nat → Bool
  | 0 => d.isEmpty
  | k + 1 => wantB d s k || (s[k]? == some 47 && d == s.take k)
theorem wantB_iff (d s : List UInt8) : ∀ k, wantB d s k = true ↔ (d = [] ∨ ∃ j < k, s[j]? = some 47 ∧ d = s.take j)
  | 0 => by simp [wantB]
  | k + 1 => by
    unfold wantB
    rw [Bool.or_eq_true, wantB_iff d s k]
    simp only [Bool.and_eq_true, beq_iff_eq]
    constructor
    · rintro ((h | ⟨j, h1, h2⟩) | h)
      · exact .inl h
      · exact .inr ⟨j, by omega, h2⟩
      · exact .inr ⟨k, by omega, h⟩
    · rintro (h | ⟨j, h1, h2⟩)
      · exact .inl (.inl h)
      · rcases Nat.lt_or_eq_of_le (Nat.le_of_lt_succ h1) with h | rfl
        · exact .inl (.inr ⟨j, h, h2⟩)
        · exact .inr h2
theorem good_ahead {a b : List UInt8} (h : goodB (a ++ 47 :: b) = true) : goodB a = true ∧ goodB b = true := by
  unfold goodB at h ⊢
  rw [pieces_at] at h
  simp only [Bool.and_eq_true, decide_eq_true_iff, List.length_append, List.all_append, List.length_cons] at h ⊢
  obtain ⟨⟨h1, h2⟩, h3, h4⟩ := h
  exact ⟨⟨⟨by omega, by omega⟩, h3⟩, ⟨by omega, by omega⟩, h4⟩
theorem take_stroke {d s : List UInt8} (h : s.take (d.length + 1) = d ++ [47]) : s = d ++ 47 :: s.drop (d.length + 1) := by
  rw [← List.take_append_drop (d.length + 1) s, h]
  simp
theorem under_want (d s : List UInt8) (h : goodB s = true) : (underP d s).2 = wantB d s s.length := by
  rw [Bool.eq_iff_iff, wantB_iff]
  unfold underP placeB
  rw [h]
  by_cases h0 : d = []
  · subst h0; simp
  · have he : d.isEmpty = false := by simpa using h0
    rw [he]
    by_cases hc : s.take (d.length + 1) = d ++ [47]
    · have hs := take_stroke hc
      have hg : goodB d = true := by rw [hs] at h; exact (good_ahead h).1
      rw [hg]
      simp only [Bool.true_and, Bool.or_true, if_true, h0, if_false, hc, true_iff]
      refine .inr ⟨d.length, ?_, ?_, ?_⟩
      · have := congrArg List.length hs; simp at this; omega
      · rw [hs]; simp
      · rw [hs]; simp
    · have hn : ¬ (d = [] ∨ ∃ j < s.length, s[j]? = some 47 ∧ d = s.take j) := by
        rintro (h1 | ⟨j, hj, h1, h2⟩)
        · exact h0 h1
        · have hl : d.length = j := by rw [h2, List.length_take]; omega
          apply hc
          rw [hl, List.take_add_one, h1, ← h2]; rfl
      rw [iff_false_intro hn]
      simp only [h0, if_false, hc]
      split <;> simp
theorem under_bad (d s : List UInt8) (h : goodB s = false) : (underP d s).2 = false := by
  unfold underP; rw [h]; rfl
set_option maxHeartbeats 2000000 in
theorem under_law (S D : ByteArray) (w : World) : Calls Tryd.prog 3 #[.string S, .string D] w (fun e w' => e = .returned (.bool true) ∧ Below w.heap.size w w') := by
  have HA := Lib.hid (alive_any w)
  by_cases hS : S.size ≤ 4096
  · by_cases hD : D.size ≤ 4096
    · have hG := fun W => good_any S W (by omega)
      have hU := fun W => under_any D S W (by omega) (by omega)
      cases hg : goodB S.data.toList
      · rw [hg] at hG
        have hu := under_bad D.data.toList _ hg
        rw [hu] at hU
        unfold strV at hU
        obtain ⟨X, hX⟩ : ∃ X : ByteArray, X = ⟨(underP D.data.toList S.data.toList).1.toArray⟩ := ⟨_, rfl⟩
        rw [← hX] at hU
        have HG := Lib.hid hG; have HU := Lib.hid hU
        clear hG hU hg hu hX
        go_enter Tryd.func3, Tryd.ntmps3
        go_wp2_with fail
        refine HA.out.mono ?_
        rintro e w1 ⟨rfl, g1⟩
        have G1 := Lib.hid g1; clear g1
        go_wp2_with fail
        refine (HG.out w1).mono ?_
        rintro e w2 ⟨rfl, g2⟩
        have G2 := Lib.hid (G1.out.trans (g2.mono G1.out.size)); clear g2
        go_wp2_with fail
        go_loopw [5, 6] (fun x i wr => x = .bool false ∧ i = .int .i64 0 ∧ Hid (Below w.heap.size w wr)) (fun _ _ _ => 0)
        case atStart => exact ⟨rfl, rfl, G2.out⟩
        case round =>
          obtain ⟨rfl, rfl, hbw⟩ := hrel
          by_cases h0 : 0 < S.size
          · go_wp2_with fail
            refine (HG.out wr).mono ?_
            rintro e w3 ⟨rfl, g3⟩
            have G3 := Lib.hid (hbw.out.trans (g3.mono hbw.out.size)); clear g3
            go_wp2_with fail
            refine (HU.out w3).mono ?_
            rintro e w4 ⟨rfl, g4⟩
            have G4 := Lib.hid (G3.out.trans (g4.mono G3.out.size)); clear g4
            go_wp2
            go_ret
            exact ⟨rfl, G4.out⟩
          · have h0' : S.size = 0 := by omega
            go_wp2_with fail
            refine (HU.out wr).mono ?_
            rintro e w4 ⟨rfl, g4⟩
            have G4 := Lib.hid (hbw.out.trans (g4.mono hbw.out.size)); clear g4
            go_wp2
            go_ret
            exact ⟨rfl, G4.out⟩
      · rw [hg] at hG
        have hu := under_want D.data.toList _ hg
        rw [hu] at hU
        unfold strV at hU
        obtain ⟨X, hX⟩ : ∃ X : ByteArray, X = ⟨(underP D.data.toList S.data.toList).1.toArray⟩ := ⟨_, rfl⟩
        rw [← hX] at hU
        have hl : S.data.toList.length = S.size := by simp
        rw [hl] at hU
        have hw : ∀ k (hk : k < S.size), wantB D.data.toList S.data.toList (k + 1) = (wantB D.data.toList S.data.toList k || (decide ((S[k]'hk).toNat = 47) && (D.toList == (S.extract 0 k).toList))) := by
          intro k hk
          have e1 : S.data.toList[k]? = some (S[k]'hk) := by rw [List.getElem?_eq_getElem (by simp; exact hk)]; rfl
          show (_ || _) = _
          rw [e1, Lib.toList_data, Lib.toList_data, ext_take]
          have e2 : (some (S[k]'hk) == some (47 : UInt8)) = decide ((S[k]'hk).toNat = 47) := by
            rw [Bool.eq_iff_iff, beq_iff_eq, decide_eq_true_iff, Option.some.injEq, ← UInt8.toNat_inj]; rfl
          rw [e2]
        obtain ⟨W, hW⟩ : ∃ W : Nat → Bool, W = wantB D.data.toList S.data.toList := ⟨_, rfl⟩
        rw [← hW] at hU hw
        have hw0 : W 0 = D.toList.isEmpty := by rw [hW, Lib.toList_data]; rfl
        have HG := Lib.hid hG; have HU := Lib.hid hU; have HW := Lib.hid hw; have HW0 := Lib.hid hw0
        clear hG hU hg hu hX hl hW hw hw0
        go_enter Tryd.func3, Tryd.ntmps3
        go_wp2_with fail
        refine HA.out.mono ?_
        rintro e w1 ⟨rfl, g1⟩
        have G1 := Lib.hid g1; clear g1
        go_wp2_with fail
        refine (HG.out w1).mono ?_
        rintro e w2 ⟨rfl, g2⟩
        have G2 := Lib.hid (G1.out.trans (g2.mono G1.out.size)); clear g2
        go_wp2_with fail
        go_loopw [5, 6] (fun x i wr => ∃ (k : Nat) (b : Bool), x = .bool b ∧ i = .int .i64 k ∧ k ≤ S.size ∧ Hid (b = W k) ∧ Hid (Below w.heap.size w wr)) (fun _ i _ => S.size - (intOf i).toNat)
        case atStart => exact ⟨0, _, rfl, rfl, Nat.zero_le _, HW0.out.symm, G2.out⟩
        case round =>
          obtain ⟨k, b, rfl, rfl, hk, hb, hbw⟩ := hrel
          by_cases h0 : k < S.size
          · have HWk := Lib.hid (HW.out k h0)
            go_wp2_with fail
            refine (HG.out wr).mono ?_
            rintro e w3 ⟨rfl, g3⟩
            have G3 := Lib.hid (hbw.out.trans (g3.mono hbw.out.size)); clear g3
            cases b
            · by_cases h47 : (S[k]'h0).toNat = 47
              · have h47' : ((S[k]'h0).toNat : Int) = 47 := by omega
                obtain ⟨c, hc⟩ : ∃ c, (D.toList == (S.extract 0 k).toList) = c := ⟨_, rfl⟩
                have e1 : W (k + 1) = c := by rw [HWk.out, ← hb.out, hc]; simp [h47]
                have E1 := Lib.hid e1
                clear e1 h47
                cases c
                · go_wp2
                  go_roundw
                  case rel => exact ⟨k + 1, false, rfl, by go_num, h0, E1.out.symm, G3⟩
                  case measure => simp [intOf]; omega
                · go_wp2
                  go_roundw
                  case rel => exact ⟨k + 1, true, rfl, by go_num, h0, E1.out.symm, G3⟩
                  case measure => simp [intOf]; omega
              · have h47' : ¬ ((S[k]'h0).toNat : Int) = 47 := by omega
                have e1 : W (k + 1) = false := by rw [HWk.out, ← hb.out]; simp [h47]
                have E1 := Lib.hid e1
                clear e1 h47
                go_wp2
                go_roundw
                case rel => exact ⟨k + 1, false, rfl, by go_num, h0, E1.out.symm, G3⟩
                case measure => simp [intOf]; omega
            · have e1 : W (k + 1) = true := by rw [HWk.out, ← hb.out]; rfl
              have E1 := Lib.hid e1
              clear e1
              go_wp2
              go_roundw
              case rel => exact ⟨k + 1, true, rfl, by go_num, h0, E1.out.symm, G3⟩
              case measure => simp [intOf]; omega
          · obtain rfl : k = S.size := by omega
            have hU := HU.out wr
            rw [← hb.out] at hU
            have HU2 := Lib.hid hU; clear hU
            go_wp2_with fail
            refine HU2.out.mono ?_
            rintro e w4 ⟨rfl, g4⟩
            have G4 := Lib.hid (hbw.out.trans (g4.mono hbw.out.size)); clear g4
            cases b
            · go_wp2
              go_ret
              exact ⟨rfl, G4.out⟩
            · go_wp2
              go_ret
              exact ⟨rfl, G4.out⟩
    · go_enter Tryd.func3, Tryd.ntmps3
      go_wp2_with fail
      refine HA.out.mono ?_
      rintro e w1 ⟨rfl, g1⟩
      have G1 := Lib.hid g1; clear g1
      go_wp2
      go_ret
      exact ⟨rfl, G1.out⟩
  · go_enter Tryd.func3, Tryd.ntmps3
    go_wp2_with fail
    refine HA.out.mono ?_
    rintro e w1 ⟨rfl, g1⟩
    have G1 := Lib.hid g1; clear g1
    go_wp2
    go_ret
    exact ⟨rfl, G1.out⟩
end Go.Proofs.YtiknklnfmbncjaaDoor
