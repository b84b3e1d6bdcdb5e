/- DERIVED. PathJoins: the reference's Join, Base, Under; the law's walk. -/
import Derived.Test.YtiknklnfmbncjaaDoorPathRefName
namespace Go.Proofs.YtiknklnfmbncjaaDoor
open Go.RowKit
set_option linter.unusedVariables false

set_option maxHeartbeats 2000000 in
theorem rjoin_any (D S : ByteArray) (w : World) (hd : D.size ≤ 40000) (hs : S.size ≤ 40000) : Calls Tryd.prog 17 #[.string D, .string S] w (fun e w' => e = .returned (.tuple #[strV (joinP D.data.toList S.data.toList).1, .int .i64 (joinP D.data.toList S.data.toList).2]) ∧ Below w.heap.size w w') := by
  have hGs := rgood_any S
  obtain ⟨gs, hgs⟩ : ∃ gs, gs = goodB S.data.toList := ⟨_, rfl⟩
  rw [← hgs] at hGs
  have HS := Lib.hid (fun W => hGs W (by omega))
  cases gs
  · have hJ : joinP D.data.toList S.data.toList = ([], 10) := by
      unfold joinP
      rw [← hgs, Bool.and_false, Bool.false_and]; rfl
    rw [hJ]
    dsimp only
    unfold strV
    clear hGs hJ hgs
    go_enter Tryd.func17, Tryd.ntmps17
    go_wp2_with fail
    refine (HS.out w).mono ?_
    rintro e w1 ⟨rfl, h1⟩
    have H1 := Lib.hid h1; clear h1
    go_wp2
    go_ret2
    exact ⟨rfl, H1.out⟩
  · cases hD : D.toList.isEmpty
    · have hne := nonempty_of hD
      have hne' : D.data.toList.isEmpty = false := by rw [← Lib.toList_data]; exact hD
      have hGd := rgood_any D
      have hGo := rgood_any (D ++ ⟨#[47]⟩ ++ S)
      have e1 : (D ++ ⟨#[47]⟩ ++ S : ByteArray).data.toList = D.data.toList ++ 47 :: S.data.toList := by simp
      have hz : (D ++ ⟨#[47]⟩ ++ S : ByteArray).size ≤ 100000 := by
        rw [ByteArray.size_append, ByteArray.size_append]; show D.size + 1 + S.size ≤ _; omega
      rw [e1] at hGo
      have e3 := strV_of e1
      obtain ⟨gd, hgd⟩ : ∃ gd, gd = goodB D.data.toList := ⟨_, rfl⟩
      obtain ⟨go, hgo⟩ : ∃ go, go = goodB (D.data.toList ++ 47 :: S.data.toList) := ⟨_, rfl⟩
      have hJ : joinP D.data.toList S.data.toList = (if (gd && go) = true then (D.data.toList ++ 47 :: S.data.toList, 0) else ([], 10)) := by
        unfold joinP placeB putBehind
        rw [if_neg hne, ← hgs, ← hgd, ← hgo, hne']; cases gd <;> rfl
      rw [← hgd] at hGd
      rw [← hgo] at hGo
      have HD := Lib.hid (fun W => hGd W (by omega)); have HO := Lib.hid (fun W => hGo W hz)
      rw [hJ]
      have hsz : D.size + 1 + S.size ≤ 100000 := by omega
      cases gd
      · rw [if_neg (by simp)]
        dsimp only
        unfold strV
        clear hGs hGd hGo hgs hgd hgo hJ e1 e3 hz hne hne'
        go_enter Tryd.func17, Tryd.ntmps17
        go_wp2_with fail
        refine (HS.out w).mono ?_
        rintro e w1 ⟨rfl, h1⟩
        have H1 := Lib.hid h1; clear h1
        go_wp2_with fail
        refine (HD.out w1).mono ?_
        rintro e w2 ⟨rfl, h2⟩
        have H2 := Lib.hid (H1.out.trans (h2.mono H1.out.size)); clear h2
        go_wp2
        go_ret2
        exact ⟨rfl, H2.out⟩
      · cases go
        · rw [if_neg (by simp)]
          dsimp only
          unfold strV
          clear hGs hGd hGo hgs hgd hgo hJ e1 e3 hz hne hne'
          go_enter Tryd.func17, Tryd.ntmps17
          go_wp2_with fail
          refine (HS.out w).mono ?_
          rintro e w1 ⟨rfl, h1⟩
          have H1 := Lib.hid h1; clear h1
          go_wp2_with fail
          refine (HD.out w1).mono ?_
          rintro e w2 ⟨rfl, h2⟩
          have H2 := Lib.hid (H1.out.trans (h2.mono H1.out.size)); clear h2
          go_wp2_with fail
          refine (HO.out w2).mono ?_
          rintro e w3 ⟨rfl, h3⟩
          have H3 := Lib.hid (H2.out.trans (h3.mono H2.out.size)); clear h3
          go_wp2
          go_ret2
          exact ⟨rfl, H3.out⟩
        · rw [if_pos (by simp)]
          dsimp only
          rw [← e3]
          clear hGs hGd hGo hgs hgd hgo hJ e1 e3 hz hne hne'
          go_enter Tryd.func17, Tryd.ntmps17
          go_wp2_with fail
          refine (HS.out w).mono ?_
          rintro e w1 ⟨rfl, h1⟩
          have H1 := Lib.hid h1; clear h1
          go_wp2_with fail
          refine (HD.out w1).mono ?_
          rintro e w2 ⟨rfl, h2⟩
          have H2 := Lib.hid (H1.out.trans (h2.mono H1.out.size)); clear h2
          go_wp2_with fail
          refine (HO.out w2).mono ?_
          rintro e w3 ⟨rfl, h3⟩
          have H3 := Lib.hid (H2.out.trans (h3.mono H2.out.size)); clear h3
          go_wp2
          go_ret2
          exact ⟨rfl, H3.out⟩
    · obtain rfl := empty_of hD
      have hJ : joinP (ByteArray.mk #[]).data.toList S.data.toList = (S.data.toList, 0) := by
        unfold joinP placeB putBehind
        rw [if_pos rfl, ← hgs]; rfl
      rw [hJ]
      clear hGs hD hJ hgs
      dsimp only
      rw [← strV_of (B := S) rfl]
      go_enter Tryd.func17, Tryd.ntmps17
      go_wp2_with fail
      refine (HS.out w).mono ?_
      rintro e w1 ⟨rfl, h1⟩
      have H1 := Lib.hid h1; clear h1
      go_wp2
      go_ret2
      exact ⟨rfl, H1.out⟩
set_option maxHeartbeats 2000000 in
theorem rbase_any (S : ByteArray) (w : World) (hs : S.size ≤ 100000) : Calls Tryd.prog 19 #[.string S] w (fun e w' => e = .returned (.tuple #[strV (baseP S.data.toList).1, strV (baseP S.data.toList).2]) ∧ Below w.heap.size w w') := by
  have hG := rgood_any S w (by omega)
  cases hg : goodB S.data.toList
  · rw [hg] at hG
    rw [show baseP S.data.toList = ([], []) from by unfold baseP; rw [hg]; rfl]
    dsimp only
    unfold strV
    have HG := Lib.hid hG; clear hG hg
    go_enter Tryd.func19, Tryd.ntmps19
    go_wp2_with fail
    refine HG.out.mono ?_
    rintro e w' ⟨rfl, h1⟩
    have H1 := Lib.hid h1; clear h1
    go_wp2
    go_ret2
    exact ⟨rfl, H1.out⟩
  · rw [hg] at hG
    have hnone : (47 : UInt8) ∉ S.data.toList → baseP S.data.toList = ([], S.data.toList) := by
      intro h; unfold baseP; rw [hg, (lastSlash_none _).2 h]; rfl
    have hsome : ∀ j, S.data.toList[j]? = some 47 → (47 : UInt8) ∉ S.data.toList.drop (j + 1) → baseP S.data.toList = (S.data.toList.take j, S.data.toList.drop (j + 1)) := by
      intro j h1 h2; unfold baseP; rw [hg, lastSlash_is _ j h1 h2]; rfl
    obtain ⟨q, hq⟩ : ∃ q, q = baseP S.data.toList := ⟨_, rfl⟩
    rw [← hq] at hnone hsome ⊢
    have HG := Lib.hid hG; have HNONE := Lib.hid hnone; have HSOME := Lib.hid hsome; clear hG hnone hsome hg hq
    go_enter Tryd.func19, Tryd.ntmps19
    go_wp2_with fail
    refine HG.out.mono ?_
    rintro e w1 ⟨rfl, h1⟩
    have H1 := Lib.hid h1; clear h1
    go_wp2
    go_loopw [4] (fun i wr => ∃ z : Int, i = .int .i64 z ∧ ((z = -1 ∧ Hid ((47 : UInt8) ∉ S.data.toList)) ∨ (∃ j : Nat, z = j ∧ j < S.size ∧ Hid ((47 : UInt8) ∉ S.data.toList.drop (j + 1)))) ∧ wr = w1) (fun i _ => (intOf i + 1).toNat)
    case atStart =>
      refine ⟨_, rfl, ?_, rfl⟩
      by_cases h0 : S.size = 0
      · refine .inl ⟨by omega, ?_⟩
        have : S.data.toList = [] := List.eq_nil_of_length_eq_zero (by rw [show S.data.toList.length = S.size from by simp]; exact h0)
        show _ ∉ _
        rw [this]; simp
      · refine .inr ⟨S.size - 1, by omega, by omega, ?_⟩
        show _ ∉ _
        rw [List.drop_of_length_le (by simp; omega)]; simp
    case round =>
      obtain ⟨z, rfl, hz, rfl⟩ := hrel
      rcases hz with ⟨rfl, hn⟩ | ⟨j, rfl, hj, hn⟩
      · obtain rfl := HNONE.out hn.out
        go_wp2
        go_ret2
        refine ⟨?_, H1.out⟩
        dsimp only
        rw [← strV_of (B := S) rfl]; rfl
      · by_cases h47 : (S[j]'hj).toNat = 47
        · have h47' : ((S[j]'hj).toNat : Int) = 47 := by omega
          obtain rfl := HSOME.out j (by rw [byte_at S j hj, Option.some.injEq, ← UInt8.toNat_inj]; exact h47) hn.out
          clear h47
          go_wp2
          go_quiet (fail)
          go_wp2
          go_ret2
          refine ⟨?_, Below.drewN H1.out _⟩
          dsimp only
          rw [← strV_of (ext_take S j), ← strV_of (ext_drop S (j + 1))]
          rfl
        · have h47' : ¬ ((S[j]'hj).toNat : Int) = 47 := by omega
          have hn2 : (47 : UInt8) ∉ S.data.toList.drop j := by
            rw [List.drop_eq_getElem_cons (by simp; exact hj)]
            intro h
            rcases List.mem_cons.1 h with h | h
            · apply h47
              have := congrArg UInt8.toNat h
              exact this.symm
            · exact hn.out h
          have HN := Lib.hid hn2; clear hn2 h47
          go_wp2
          go_roundw
          case rel =>
            refine ⟨_, rfl, ?_, by trivial⟩
            cases j with
            | zero => exact .inl ⟨by omega, HN⟩
            | succ j => exact .inr ⟨j, by omega, by omega, HN⟩
          case measure => simp [intOf]
theorem take_stroke_iff (d s : List UInt8) : s.take (d.length + 1) = d ++ [47] ↔ (s.take d.length = d ∧ s[d.length]? = some 47) := by
  constructor
  · intro h
    have hs := take_stroke h
    constructor
    · rw [hs]; simp
    · rw [hs]; simp
  · rintro ⟨h1, h2⟩
    rw [List.take_add_one, h1, h2]; rfl
set_option maxHeartbeats 4000000 in
theorem runder_any (D S : ByteArray) (w : World) (hd : D.size ≤ 50000) (hs : S.size ≤ 50000) : Calls Tryd.prog 20 #[.string D, .string S] w (fun e w' => e = .returned (.tuple #[strV (underP D.data.toList S.data.toList).1, .bool (underP D.data.toList S.data.toList).2]) ∧ Below w.heap.size w w') := by
  have hGs := rgood_any S
  have hGd := rgood_any D
  obtain ⟨gs, hgs⟩ : ∃ gs, gs = goodB S.data.toList := ⟨_, rfl⟩
  obtain ⟨gd, hgd⟩ : ∃ gd, gd = goodB D.data.toList := ⟨_, rfl⟩
  have hU : underP D.data.toList S.data.toList = (if (gs && (D.data.toList.isEmpty || gd)) = true then (if D.data.toList = [] then (S.data.toList, true) else if S.data.toList.take (D.data.toList.length + 1) = D.data.toList ++ [47] then (S.data.toList.drop (D.data.toList.length + 1), true) else ([], false)) else ([], false)) := by
    rw [hgs, hgd]; rfl
  rw [← hgs] at hGs
  rw [← hgd] at hGd
  have HS := Lib.hid (fun W => hGs W (by omega)); have HD := Lib.hid (fun W => hGd W (by omega))
  rw [hU]
  clear hGs hGd hgs hgd hU
  have hdl : D.data.toList.length = D.size := by simp
  cases gs
  · rw [if_neg (by simp)]
    dsimp only
    unfold strV
    clear hdl
    go_enter Tryd.func20, Tryd.ntmps20
    go_wp2_with fail
    refine (HS.out w).mono ?_
    rintro e w1 ⟨rfl, h1⟩
    have H1 := Lib.hid h1; clear h1
    go_wp2
    go_ret2
    exact ⟨rfl, H1.out⟩
  · cases hD : D.toList.isEmpty
    · have hne := nonempty_of hD
      have hne' : D.data.toList.isEmpty = false := by rw [← Lib.toList_data]; exact hD
      cases gd
      · rw [if_neg (by simp [hne'])]
        dsimp only
        unfold strV
        clear hne hne' hdl
        go_enter Tryd.func20, Tryd.ntmps20
        go_wp2_with fail
        refine (HS.out w).mono ?_
        rintro e w1 ⟨rfl, h1⟩
        have H1 := Lib.hid h1; clear h1
        go_wp2_with fail
        refine (HD.out w1).mono ?_
        rintro e w2 ⟨rfl, h2⟩
        have H2 := Lib.hid (H1.out.trans (h2.mono H1.out.size)); clear h2
        go_wp2
        go_ret2
        exact ⟨rfl, H2.out⟩
      · rw [if_pos (by simp), if_neg hne]
        by_cases hlt : D.size < S.size
        · have hget := byte_at S D.size hlt
          have heq : ((S.extract 0 D.size).toList == D.toList) = decide (S.data.toList.take D.data.toList.length = D.data.toList) := by
            rw [Lib.toList_data, Lib.toList_data, ext_take, hdl, Bool.eq_iff_iff, beq_iff_eq, decide_eq_true_iff]
          by_cases hc1 : S.data.toList.take D.data.toList.length = D.data.toList
          · have e1 : ((S.extract 0 D.size).toList == D.toList) = true := by rw [heq]; simpa using hc1
            have e2 : ((S.extract 0 D.size).toList != D.toList) = false := by show (!_) = _; rw [e1]; rfl
            by_cases h47 : (S[D.size]'hlt).toNat = 47
            · have h47' : ((S[D.size]'hlt).toNat : Int) = 47 := by omega
              rw [if_pos ((take_stroke_iff _ _).2 ⟨hc1, by rw [hdl, hget, Option.some.injEq, ← UInt8.toNat_inj]; exact h47⟩)]
              dsimp only
              rw [hdl, ← strV_of (ext_drop S (D.size + 1))]
              clear hget heq hc1 h47 hdl hne hne'
              go_enter Tryd.func20, Tryd.ntmps20
              go_wp2_with fail
              refine (HS.out w).mono ?_
              rintro e w1 ⟨rfl, h1⟩
              have H1 := Lib.hid h1; clear h1
              go_wp2_with fail
              refine (HD.out w1).mono ?_
              rintro e w2 ⟨rfl, h2⟩
              have H2 := Lib.hid (H1.out.trans (h2.mono H1.out.size)); clear h2
              go_wp2
              go_ret2
              exact ⟨rfl, H2.out⟩
            · have h47' : ¬ ((S[D.size]'hlt).toNat : Int) = 47 := by omega
              have h47n : (((S[D.size]'hlt).toNat : Int) != 47) = true := by simpa using h47'
              rw [if_neg (by intro h; have := ((take_stroke_iff _ _).1 h).2; rw [hdl, hget] at this; apply h47; rw [Option.some.inj this]; rfl)]
              dsimp only
              unfold strV
              clear hget heq hc1 h47 hdl hne hne'
              go_enter Tryd.func20, Tryd.ntmps20
              go_wp2_with fail
              refine (HS.out w).mono ?_
              rintro e w1 ⟨rfl, h1⟩
              have H1 := Lib.hid h1; clear h1
              go_wp2_with fail
              refine (HD.out w1).mono ?_
              rintro e w2 ⟨rfl, h2⟩
              have H2 := Lib.hid (H1.out.trans (h2.mono H1.out.size)); clear h2
              go_wp2
              go_ret2
              exact ⟨rfl, H2.out⟩
          · have e1 : ((S.extract 0 D.size).toList == D.toList) = false := by rw [heq]; simpa using hc1
            have e2 : ((S.extract 0 D.size).toList != D.toList) = true := by show (!_) = _; rw [e1]; rfl
            rw [if_neg (by intro h; exact hc1 ((take_stroke_iff _ _).1 h).1)]
            dsimp only
            unfold strV
            clear hget heq hc1 hdl hne hne'
            go_enter Tryd.func20, Tryd.ntmps20
            go_wp2_with fail
            refine (HS.out w).mono ?_
            rintro e w1 ⟨rfl, h1⟩
            have H1 := Lib.hid h1; clear h1
            go_wp2_with fail
            refine (HD.out w1).mono ?_
            rintro e w2 ⟨rfl, h2⟩
            have H2 := Lib.hid (H1.out.trans (h2.mono H1.out.size)); clear h2
            go_wp2
            go_ret2
            exact ⟨rfl, H2.out⟩
        · rw [if_neg (by
            intro h
            have := ((take_stroke_iff _ _).1 h).2
            have := (List.getElem?_eq_some_iff.1 this).1
            rw [hdl] at this
            simp at this
            omega)]
          dsimp only
          unfold strV
          clear hdl hne hne'
          go_enter Tryd.func20, Tryd.ntmps20
          go_wp2_with fail
          refine (HS.out w).mono ?_
          rintro e w1 ⟨rfl, h1⟩
          have H1 := Lib.hid h1; clear h1
          go_wp2_with fail
          refine (HD.out w1).mono ?_
          rintro e w2 ⟨rfl, h2⟩
          have H2 := Lib.hid (H1.out.trans (h2.mono H1.out.size)); clear h2
          go_wp2
          go_ret2
          exact ⟨rfl, H2.out⟩
    · obtain rfl := empty_of hD
      rw [if_pos (by simp), if_pos rfl]
      dsimp only
      rw [← strV_of (B := S) rfl]
      clear hD hdl
      go_enter Tryd.func20, Tryd.ntmps20
      go_wp2_with fail
      refine (HS.out w).mono ?_
      rintro e w1 ⟨rfl, h1⟩
      have H1 := Lib.hid h1; clear h1
      go_wp2
      go_ret2
      exact ⟨rfl, H1.out⟩
set_option maxRecDepth 100000 in
set_option maxHeartbeats 4000000 in
theorem joins_law (A B : ByteArray) (w : World) : Calls Tryd.prog 6 #[.string A, .string B] w (fun e w' => e = .returned (.bool true) ∧ Below w.heap.size w w') := by
  have HA := Lib.hid (alive_any w)
  by_cases hA : A.size ≤ 4096
  case neg =>
    go_enter Tryd.func6, Tryd.ntmps6
    go_wp2_with fail
    refine HA.out.mono ?_
    rintro e w1 ⟨rfl, g1⟩
    have G1 := Lib.hid g1; clear g1
    go_wp2
    go_ret
    exact ⟨rfl, G1.out⟩
  by_cases hB : B.size ≤ 4096
  case neg =>
    go_enter Tryd.func6, Tryd.ntmps6
    go_wp2_with fail
    refine HA.out.mono ?_
    rintro e w1 ⟨rfl, g1⟩
    have G1 := Lib.hid g1; clear g1
    go_wp2
    go_ret
    exact ⟨rfl, G1.out⟩
  have h1 := fun W => join_any A B W (by omega) (by omega)
  have h2 := fun W => rjoin_any A B W (by omega) (by omega)
  have h3 := fun W => base_any A W (by omega)
  have h4 := fun W => rbase_any A W (by omega)
  have h5 := fun W => under_any A B W (by omega) (by omega)
  have h6 := fun W => runder_any A B W (by omega) (by omega)
  obtain ⟨j, hj⟩ : ∃ j, j = joinP A.data.toList B.data.toList := ⟨_, rfl⟩
  obtain ⟨b, hb⟩ : ∃ j, j = baseP A.data.toList := ⟨_, rfl⟩
  obtain ⟨u, hu⟩ : ∃ j, j = underP A.data.toList B.data.toList := ⟨_, rfl⟩
  rw [← hj] at h1 h2
  rw [← hb] at h3 h4
  rw [← hu] at h5 h6
  obtain ⟨j1, j2⟩ := j
  obtain ⟨b1, b2⟩ := b
  obtain ⟨u1, u2⟩ := u
  dsimp only at h1 h2 h3 h4 h5 h6
  unfold strV at h1 h2 h3 h4 h5 h6
  obtain ⟨J, hJ⟩ : ∃ J : ByteArray, J = ⟨j1.toArray⟩ := ⟨_, rfl⟩
  obtain ⟨B1, hB1⟩ : ∃ J : ByteArray, J = ⟨b1.toArray⟩ := ⟨_, rfl⟩
  obtain ⟨B2, hB2⟩ : ∃ J : ByteArray, J = ⟨b2.toArray⟩ := ⟨_, rfl⟩
  obtain ⟨U, hU⟩ : ∃ J : ByteArray, J = ⟨u1.toArray⟩ := ⟨_, rfl⟩
  rw [← hJ] at h1 h2
  rw [← hB1, ← hB2] at h3 h4
  rw [← hU] at h5 h6
  have H1 := Lib.hid h1; have H2 := Lib.hid h2; have H3 := Lib.hid h3; have H4 := Lib.hid h4; have H5 := Lib.hid h5; have H6 := Lib.hid h6
  clear h1 h2 h3 h4 h5 h6 hj hb hu hJ hB1 hB2 hU
  cases u2
  all_goals
    go_enter Tryd.func6, Tryd.ntmps6
    go_wp2_with fail
    refine HA.out.mono ?_
    rintro e w1 ⟨rfl, g1⟩
    have G1 := Lib.hid g1; clear g1
    go_wp2_with fail
    refine (H1.out w1).mono ?_
    rintro e w2 ⟨rfl, g2⟩
    have G2 := Lib.hid (G1.out.trans (g2.mono G1.out.size)); clear g2
    go_wp2_with fail
    refine (H2.out w2).mono ?_
    rintro e w3 ⟨rfl, g3⟩
    have G3 := Lib.hid (G2.out.trans (g3.mono G2.out.size)); clear g3
    go_wp2_with fail
    refine (H3.out w3).mono ?_
    rintro e w4 ⟨rfl, g4⟩
    have G4 := Lib.hid (G3.out.trans (g4.mono G3.out.size)); clear g4
    go_wp2_with fail
    refine (H4.out w4).mono ?_
    rintro e w5 ⟨rfl, g5⟩
    have G5 := Lib.hid (G4.out.trans (g5.mono G4.out.size)); clear g5
    go_wp2_with fail
    refine (H5.out w5).mono ?_
    rintro e w6 ⟨rfl, g6⟩
    have G6 := Lib.hid (G5.out.trans (g6.mono G5.out.size)); clear g6
    go_wp2_with fail
    refine (H6.out w6).mono ?_
    rintro e w7 ⟨rfl, g7⟩
    have G7 := Lib.hid (G6.out.trans (g7.mono G6.out.size)); clear g7
    go_wp2
    go_ret
    exact ⟨rfl, G7.out⟩
end Go.Proofs.YtiknklnfmbncjaaDoor
