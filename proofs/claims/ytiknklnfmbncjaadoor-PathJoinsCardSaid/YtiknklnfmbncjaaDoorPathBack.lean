/- DERIVED. PathBack: the law's walk. -/
import Derived.Test.YtiknklnfmbncjaaDoorPathBase
namespace Go.Proofs.YtiknklnfmbncjaaDoor
open Go.RowKit
set_option linter.unusedVariables false

theorem good_nil : goodB [] = false := by decide +kernel
theorem join_cases (a b : List UInt8) : (joinP a b = (putBehind a b, 0) ∧ underP a (putBehind a b) = (b, true) ∧ goodB (putBehind a b) = true) ∨ joinP a b = ([], 10) := by
  unfold joinP
  cases h : placeB a && goodB b && goodB (putBehind a b)
  · exact .inr rfl
  · simp only [Bool.and_eq_true] at h
    obtain ⟨⟨h1, h2⟩, h3⟩ := h
    refine .inl ⟨rfl, ?_, h3⟩
    unfold underP
    rw [h1, h3]
    by_cases h0 : a = []
    · subst h0; rfl
    · have e1 : putBehind a b = a ++ 47 :: b := by unfold putBehind; rw [if_neg h0]
      rw [if_pos (show (true && true) = true from rfl), if_neg h0, e1, if_pos (by rw [List.take_append, List.take_of_length_le (by omega)]; simp), List.drop_append, List.drop_of_length_le (by omega)]
      simp
theorem good_split {a b : List UInt8} (h : goodB (a ++ 47 :: b) = true) : a ≠ [] := by
  rintro rfl
  have := (good_ahead h).1
  rw [good_nil] at this; cases this
theorem name_good {a : List UInt8} (h : goodB a = true) (hn : (47 : UInt8) ∉ a) : nameB a = true := by
  unfold goodB at h
  rw [pieces_plain a hn] at h
  simp only [Bool.and_eq_true, List.all_cons, List.all_nil] at h
  exact h.2.1
theorem base_back {a : List UInt8} (h : goodB a = true) : joinP (baseP a).1 (baseP a).2 = (a, 0) ∧ nameB (baseP a).2 = true := by
  unfold baseP
  rw [if_pos h]
  cases hl : lastSlash a with
  | none =>
    refine ⟨?_, name_good h ((lastSlash_none a).1 hl)⟩
    show joinP [] a = _
    unfold joinP placeB putBehind
    simp [h]
  | some i =>
    obtain ⟨g1, g2⟩ := lastSlash_some a i hl
    have ha : a = a.take i ++ 47 :: a.drop (i + 1) := by
      have hi := (List.getElem?_eq_some_iff.1 g1).1
      have := List.drop_eq_getElem_cons hi
      rw [(List.getElem?_eq_some_iff.1 g1).2] at this
      rw [← this]; exact (List.take_append_drop i a).symm
    have h' := h
    rw [ha] at h'
    have hg := good_ahead h'
    refine ⟨?_, name_good hg.2 g2⟩
    show joinP (a.take i) (a.drop (i + 1)) = _
    have e1 : putBehind (a.take i) (a.drop (i + 1)) = a := by
      unfold putBehind
      rw [if_neg (good_split h'), ← ha]
    unfold joinP placeB
    rw [e1, hg.1, hg.2, h]; simp
theorem glue_two : ∀ xs ys : List (List UInt8), xs ≠ [] → ys ≠ [] → glue (xs ++ ys) = glue xs ++ 47 :: glue ys
  | [], _, h, _ => absurd rfl h
  | [p], [], _, h => absurd rfl h
  | [p], y :: ys, _, _ => rfl
  | p :: q :: ps, ys, _, hy => by
    have ih := glue_two (q :: ps) ys (by simp) hy
    show p ++ 47 :: glue ((q :: ps) ++ ys) = (p ++ 47 :: glue (q :: ps)) ++ 47 :: glue ys
    rw [ih]; simp
theorem good_front {a : List UInt8} (h : goodB a = true) (k : Nat) (hk : k < (pieces a).length) : goodB (glue ((pieces a).take (k + 1))) = true := by
  rcases Nat.lt_or_eq_of_le (Nat.succ_le_of_lt hk) with h1 | h1
  · have e : a = glue ((pieces a).take (k + 1)) ++ 47 :: glue ((pieces a).drop (k + 1)) := by
      rw [← glue_two _ _ (by intro e; have := congrArg List.length e; rw [List.length_take, List.length_nil] at this; omega) (by intro e; have := congrArg List.length e; rw [List.length_drop, List.length_nil] at this; omega), List.take_append_drop, glue_pieces]
    rw [e] at h
    exact (good_ahead h).1
  · rw [List.take_of_length_le (by omega), glue_pieces]; exact h
theorem good_piece {a : List UInt8} (h : goodB a = true) {p : List UInt8} (hp : p ∈ pieces a) : goodB p = true := by
  have hn := pieces_no a p hp
  have hl := pieces_le a p hp
  unfold goodB at h ⊢
  simp only [Bool.and_eq_true, decide_eq_true_iff] at h ⊢
  rw [pieces_plain p hn]
  refine ⟨⟨by omega, by simp⟩, ?_⟩
  have := List.all_eq_true.1 h.2 p hp
  simp [this]
theorem join_step {a : List UInt8} (h : goodB a = true) (k : Nat) (p : List UInt8) (hp : (pieces a)[k]? = some p) : joinP (glue ((pieces a).take k)) p = (glue ((pieces a).take (k + 1)), 0) := by
  have hk := (List.getElem?_eq_some_iff.1 hp).1
  have h1 := good_front h k hk
  have h2 := good_piece h (List.mem_of_getElem? hp)
  have e1 : (pieces a).take (k + 1) = (pieces a).take k ++ [p] := by rw [List.take_add_one, hp]; rfl
  cases k with
  | zero =>
    rw [e1]
    show joinP [] p = (p, 0)
    unfold joinP placeB putBehind
    simp [h2]
  | succ k =>
    have h3 := good_front h k (by omega)
    have hne : (pieces a).take (k + 1) ≠ [] := by
      intro e; rw [e] at h3; rw [show glue [] = [] from rfl, good_nil] at h3; cases h3
    have hne2 : glue ((pieces a).take (k + 1)) ≠ [] := by intro e; rw [e, good_nil] at h3; cases h3
    rw [e1, glue_two _ _ hne (by simp)] at h1 ⊢
    show joinP _ p = (_ ++ 47 :: p, 0)
    have h1' : goodB (glue ((pieces a).take (k + 1)) ++ 47 :: p) = true := h1
    unfold joinP placeB
    have e2 : putBehind (glue ((pieces a).take (k + 1))) p = glue ((pieces a).take (k + 1)) ++ 47 :: p := by unfold putBehind; rw [if_neg hne2]
    rw [e2, h1', h2, h3]; simp
theorem good_le {a : List UInt8} (h : goodB a = true) : a.length ≤ 128 := by
  unfold goodB at h
  simp only [Bool.and_eq_true, decide_eq_true_iff] at h
  exact h.1.1
theorem same_of {A B : ByteArray} (h : A.data.toList = B.data.toList) : A = B := by
  cases A; cases B; simp at h; rw [h]
set_option maxRecDepth 100000 in
set_option maxHeartbeats 4000000 in
theorem back_law (A B : ByteArray) (w : World) : Calls Tryd.prog 7 #[.string A, .string B] w (fun e w' => e = .returned (.bool true) ∧ Below w.heap.size w w') := by
  have HA := Lib.hid (alive_any w)
  by_cases hA : A.size ≤ 4096
  case neg =>
    go_enter Tryd.func7, Tryd.ntmps7
    go_wp2_with fail
    refine HA.out.mono ?_
    rintro e w1 ⟨rfl, g1⟩
    have G1 := Lib.hid g1; clear g1
    go_wp2
    go_ret
    exact ⟨rfl, G1.out⟩
  by_cases hB : B.size ≤ 4096
  case neg =>
    go_enter Tryd.func7, Tryd.ntmps7
    go_wp2_with fail
    refine HA.out.mono ?_
    rintro e w1 ⟨rfl, g1⟩
    have G1 := Lib.hid g1; clear g1
    go_wp2
    go_ret
    exact ⟨rfl, G1.out⟩
  have hJ := fun W => join_any A B W (by omega) (by omega)
  have hGa := fun W => good_any A W (by omega)
  have hBs := fun W => base_any A W (by omega)
  have hPt := fun W => parts_any A W (by omega)
  obtain ⟨gd, hgd⟩ : ∃ b, b = goodB A.data.toList := ⟨_, rfl⟩
  rw [← hgd] at hGa
  have HG := Lib.hid hGa
  have HX : (∃ X : ByteArray, Hid (∀ W, Calls Tryd.prog 16 #[.string A, .string B] W fun e w' => e = .returned (.tuple #[.string X, .int .i64 0]) ∧ Below W.heap.size W w') ∧ Hid (∀ W, Calls Tryd.prog 10 #[.string A, .string X] W fun e w' => e = .returned (.tuple #[.string B, .bool true]) ∧ Below W.heap.size W w') ∧ Hid (∀ W, Calls Tryd.prog 9 #[.string X] W fun e w' => e = .returned (.bool true) ∧ Below W.heap.size W w')) ∨ Hid (∀ W, Calls Tryd.prog 16 #[.string A, .string B] W fun e w' => e = .returned (.tuple #[.string ⟨#[]⟩, .int .i64 10]) ∧ Below W.heap.size W w') := by
    rcases join_cases A.data.toList B.data.toList with ⟨e1, e2, e3⟩ | e1
    · have hl : (putBehind A.data.toList B.data.toList).length ≤ 40000 := by have := good_le e3; omega
      rw [e1] at hJ
      refine .inl ⟨⟨(putBehind A.data.toList B.data.toList).toArray⟩, hJ, ?_, ?_⟩
      · intro W
        have := under_any A ⟨(putBehind A.data.toList B.data.toList).toArray⟩ W (by omega) (by rw [str_size]; omega)
        rw [show (⟨(putBehind A.data.toList B.data.toList).toArray⟩ : ByteArray).data.toList = putBehind A.data.toList B.data.toList from rfl, e2] at this
        dsimp only at this
        rwa [← strV_of (B := B) rfl] at this
      · intro W
        have := good_any ⟨(putBehind A.data.toList B.data.toList).toArray⟩ W (by rw [str_size]; omega)
        rwa [show (⟨(putBehind A.data.toList B.data.toList).toArray⟩ : ByteArray).data.toList = putBehind A.data.toList B.data.toList from rfl, e3] at this
    · rw [e1] at hJ
      exact .inr hJ
  cases gd
  · clear hJ hGa hBs hPt hgd
    rcases HX with ⟨X, HJ, HU, HGX⟩ | HJ
    · go_enter Tryd.func7, Tryd.ntmps7
      go_wp2_with fail
      refine HA.out.mono ?_
      rintro e w1 ⟨rfl, g1⟩
      have G1 := Lib.hid g1; clear g1
      go_wp2_with fail
      refine (HJ.out w1).mono ?_
      rintro e w2 ⟨rfl, g2⟩
      have G2 := Lib.hid (G1.out.trans (g2.mono G1.out.size)); clear g2
      go_wp2_with fail
      refine (HU.out w2).mono ?_
      rintro e w3 ⟨rfl, g3⟩
      have G3 := Lib.hid (G2.out.trans (g3.mono G2.out.size)); clear g3
      go_wp2_with fail
      refine (HGX.out w3).mono ?_
      rintro e w4 ⟨rfl, g4⟩
      have G4 := Lib.hid (G3.out.trans (g4.mono G3.out.size)); clear g4
      go_wp2_with fail
      refine (HG.out w4).mono ?_
      rintro e w5 ⟨rfl, g5⟩
      have G5 := Lib.hid (G4.out.trans (g5.mono G4.out.size)); clear g5
      go_wp2
      go_ret
      exact ⟨rfl, G5.out⟩
    · go_enter Tryd.func7, Tryd.ntmps7
      go_wp2_with fail
      refine HA.out.mono ?_
      rintro e w1 ⟨rfl, g1⟩
      have G1 := Lib.hid g1; clear g1
      go_wp2_with fail
      refine (HJ.out w1).mono ?_
      rintro e w2 ⟨rfl, g2⟩
      have G2 := Lib.hid (G1.out.trans (g2.mono G1.out.size)); clear g2
      go_wp2_with fail
      refine (HG.out w2).mono ?_
      rintro e w5 ⟨rfl, g5⟩
      have G5 := Lib.hid (G2.out.trans (g5.mono G2.out.size)); clear g5
      go_wp2
      go_ret
      exact ⟨rfl, G5.out⟩
  · have hg : goodB A.data.toList = true := hgd.symm
    obtain ⟨b1, b2⟩ := base_back hg
    obtain ⟨ps, hps⟩ : ∃ ps, ps = pieces A.data.toList := ⟨_, rfl⟩
    have e1 : partsP A.data.toList = ps := by unfold partsP; rw [if_pos hg, hps]
    rw [e1] at hPt
    obtain ⟨D, hD⟩ : ∃ D : ByteArray, D = ⟨(baseP A.data.toList).1.toArray⟩ := ⟨_, rfl⟩
    obtain ⟨Nm, hN⟩ : ∃ D : ByteArray, D = ⟨(baseP A.data.toList).2.toArray⟩ := ⟨_, rfl⟩
    unfold strV at hBs
    rw [← hD, ← hN] at hBs
    have hal : A.data.toList.length ≤ 4096 := by simpa using hA
    have hbl : (baseP A.data.toList).1.length ≤ 4096 ∧ (baseP A.data.toList).2.length ≤ 4096 := by
      unfold baseP
      rw [if_pos hg]
      cases lastSlash A.data.toList with
      | none => exact ⟨by simp, hal⟩
      | some i => exact ⟨by rw [List.length_take]; omega, by rw [List.length_drop]; omega⟩
    have hJ2 := fun W => join_any D Nm W (by rw [hD, str_size]; omega) (by rw [hN, str_size]; omega)
    have hN2 := fun W => name_any Nm W (by rw [hN, str_size]; omega)
    rw [show D.data.toList = (baseP A.data.toList).1 from by rw [hD], show Nm.data.toList = (baseP A.data.toList).2 from by rw [hN], b1] at hJ2
    dsimp only at hJ2
    rw [← strV_of (B := A) rfl] at hJ2
    rw [show Nm.data.toList = (baseP A.data.toList).2 from by rw [hN], b2] at hN2
    have hstep : ∀ (k : Nat) p (T : ByteArray), ps[k]? = some p → T.data.toList = glue (ps.take k) → T.size ≤ 128 → ∃ T2 : ByteArray, T2.data.toList = glue (ps.take (k + 1)) ∧ T2.size ≤ 128 ∧ ∀ W, Calls Tryd.prog 16 #[.string T, .string ⟨p.toArray⟩] W fun e w' => e = .returned (.tuple #[.string T2, .int .i64 0]) ∧ Below W.heap.size W w' := by
      intro k p T hp hT hz
      have hpm := List.mem_of_getElem? hp
      rw [hps] at hp hpm
      have h3 := good_front hg k (List.getElem?_eq_some_iff.1 hp).1
      have h4 := good_le h3
      have h5 := pieces_le _ p hpm
      rw [← hps] at h4
      refine ⟨⟨(glue (ps.take (k + 1))).toArray⟩, rfl, by rw [str_size]; exact h4, fun W => ?_⟩
      have := join_any T ⟨p.toArray⟩ W (by omega) (by rw [str_size]; omega)
      rw [hT, show (⟨p.toArray⟩ : ByteArray).data.toList = p from rfl, hps, join_step hg k p hp, ← hps] at this
      exact this
    have hend : ∀ T : ByteArray, T.data.toList = glue (ps.take ps.length) → T = A := by
      intro T hT
      rw [List.take_length, hps, glue_pieces] at hT
      exact same_of hT
    obtain ⟨n, hn⟩ : ∃ n, n = ps.length := ⟨_, rfl⟩
    have hnb : n ≤ 5000 := by rw [hn, hps]; have := pieces_len A.data.toList; omega
    have hn0 : ps ≠ [] := by rw [hps]; exact pieces_ne _
    have HB := Lib.hid hBs; have HPt := Lib.hid hPt; have HJ2 := Lib.hid hJ2; have HN2 := Lib.hid hN2; have HST := Lib.hid hstep; have HE := Lib.hid hend; have HN := Lib.hid hn; have HN0 := Lib.hid hn0
    clear hJ hGa hBs hPt hgd hg b1 b2 e1 hD hN hal hbl hJ2 hN2 hstep hend hps hn hn0
    rcases HX with ⟨X, HJ, HU, HGX⟩ | HJ
    all_goals
      go_enter Tryd.func7, Tryd.ntmps7
      go_wp2_with fail
      refine HA.out.mono ?_
      rintro e w1 ⟨rfl, g1⟩
      have G1 := Lib.hid g1; clear g1
      go_wp2_with fail
      refine (HJ.out w1).mono ?_
      rintro e w2 ⟨rfl, g2⟩
      have G2 := Lib.hid (G1.out.trans (g2.mono G1.out.size)); clear g2
      go_wp2_with fail
      first
        | (refine (HU.out w2).mono ?_; rintro e w3 ⟨rfl, g3⟩; have G3 := Lib.hid (G2.out.trans (g3.mono G2.out.size)); clear g3; go_wp2_with fail; refine (HGX.out w3).mono ?_; rintro e w4 ⟨rfl, g4⟩; have G4 := Lib.hid (G3.out.trans (g4.mono G3.out.size)); clear g4; go_wp2_with fail; refine (HG.out w4).mono ?_; rintro e w5 ⟨rfl, g5⟩; have G5 := Lib.hid (G4.out.trans (g5.mono G4.out.size)); clear g5 G4 G3)
        | (refine (HG.out w2).mono ?_; rintro e w5 ⟨rfl, g5⟩; have G5 := Lib.hid (G2.out.trans (g5.mono G2.out.size)); clear g5)
      go_wp2_with fail
      refine (HB.out w5).mono ?_
      rintro e w6 ⟨rfl, g6⟩
      have G6 := Lib.hid (G5.out.trans (g6.mono G5.out.size)); clear g6
      go_wp2_with fail
      refine (HJ2.out w6).mono ?_
      rintro e w7 ⟨rfl, g7⟩
      have G7 := Lib.hid (G6.out.trans (g7.mono G6.out.size)); clear g7
      go_wp2_with fail
      refine (HN2.out w7).mono ?_
      rintro e w8 ⟨rfl, g8⟩
      have G8 := Lib.hid (G7.out.trans (g8.mono G7.out.size)); clear g8
      go_wp2_with fail
      refine (HPt.out w8).mono ?_
      rintro e w9 ⟨ad, cp, rfl, g9r, g9⟩
      obtain ⟨b0, o0, rfl, hcs⟩ := g9r HN0.out
      have hcl : ∀ i l, ps[i]? = some l → b0 < w9.heap.size := fun i l hi => cell_lt (hcs i l hi)
      have G9 := Lib.hid (G8.out.trans (g9.mono G8.out.size)); clear g9 G1 G2 G5 G6 G7 G8
      have HCS := Lib.hid hcs; have HCL := Lib.hid hcl; clear hcs hcl g9r
      rw [← HN.out]
      go_wp2
      go_loopw [11, 79] (fun t i wr => ∃ (k : Nat) (T : ByteArray), t = .string T ∧ i = .int .i64 k ∧ k ≤ n ∧ T.size ≤ 128 ∧ Hid (T.data.toList = glue (ps.take k)) ∧ Hid (Below w9.heap.size w9 wr)) (fun _ i _ => n - (intOf i).toNat)
      case atStart => exact ⟨0, ⟨#[]⟩, rfl, rfl, Nat.zero_le _, by decide, rfl, Below.refl _ w9⟩
      case round =>
        obtain ⟨k, T, rfl, rfl, hk, hT, htl, hbw⟩ := hrel
        by_cases hlt : k < n
        · obtain ⟨p, hp⟩ : ∃ p, ps[k]? = some p := ⟨_, List.getElem?_eq_getElem (by rw [← HN.out]; exact hlt)⟩
          have hc0 : wr.cell? ⟨b0, o0 + k, none⟩ = some (.string ⟨p.toArray⟩) := by
            rw [hbw.out.cell (HCL.out k p hp)]; exact HCS.out k p hp
          obtain ⟨T2, ht1, ht2, ht3⟩ := HST.out k p T hp htl.out hT
          obtain ⟨S, hS⟩ : ∃ S : ByteArray, S = ⟨p.toArray⟩ := ⟨_, rfl⟩
          rw [← hS] at hc0 ht3
          have HT1 := Lib.hid ht1; have HT3 := Lib.hid ht3
          clear ht1 ht3 hp hS
          go_wp2_with fail
          refine (HT3.out wr).mono ?_
          rintro e w10 ⟨rfl, g10⟩
          have G10 := Lib.hid (hbw.out.trans (g10.mono hbw.out.size)); clear g10
          go_wp2
          go_roundw
          case rel => exact ⟨k + 1, T2, rfl, by go_num, hlt, ht2, HT1, G10⟩
          case measure => simp [intOf]; omega
        · obtain rfl : k = n := by omega
          have hTA : T = A := HE.out T (by rw [← HN.out]; exact htl.out)
          subst hTA
          go_wp2
          go_ret
          exact ⟨rfl, G9.out.trans (hbw.out.mono G9.out.size)⟩
end Go.Proofs.YtiknklnfmbncjaaDoor
