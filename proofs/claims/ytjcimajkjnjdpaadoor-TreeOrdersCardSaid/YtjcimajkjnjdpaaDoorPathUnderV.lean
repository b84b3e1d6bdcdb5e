/- DERIVED. The walks of path.Under, path.Join. -/
import Derived.Test.YtjcimajkjnjdpaaDoorPathGoodV
namespace Go.Proofs.YtjcimajkjnjdpaaDoor
open Go.RowKit
set_option linter.unusedVariables false

/-- What the cut of a text off another one's front says. -/
def cutP (s p : List UInt8) : List UInt8 × Bool := if s.take p.length = p then (s.drop p.length, true) else (s, false)
def preB (s p : List UInt8) : Bool := decide (s.take p.length = p)
set_option maxHeartbeats 1000000 in
theorem pre_any (S P : ByteArray) (w : World) (hs : S.size ≤ 1000000) (hp : P.size ≤ 1000000) : Calls Tryd.prog 37 #[.string S, .string P] w (fun e w' => e = .returned (.bool (preB S.data.toList P.data.toList)) ∧ w = w') := by
  obtain ⟨R, hR⟩ : ∃ R, R = preB S.data.toList P.data.toList := ⟨_, rfl⟩
  rw [← hR]
  have hS : S.size = S.data.toList.length := by simp
  have hP : P.size = P.data.toList.length := by simp
  by_cases hle : P.size ≤ S.size
  · have key : ((S.extract 0 P.size).toList == P.toList) = R := by
      rw [hR]
      unfold preB
      rw [Lib.toList_data, Lib.toList_data, Lib.extract_data, Bool.eq_iff_iff, beq_iff_eq, decide_eq_true_iff, ← hP]
      simp
    have HR := Lib.hid hR
    clear hR hS hP
    go_enter Tryd.func37, Tryd.ntmps37
    cases R
    · go_wp2
      go_ret
      exact ⟨rfl, rfl⟩
    · go_wp2
      go_ret
      exact ⟨rfl, rfl⟩
  · have e0 : R = false := by
      rw [hR]
      unfold preB
      rw [decide_eq_false_iff_not]
      intro h
      have := congrArg List.length h
      simp at this
      omega
    subst e0
    clear hR hS hP
    go_enter Tryd.func37, Tryd.ntmps37
    go_wp2
    go_ret
    exact ⟨rfl, rfl⟩
theorem ext_list (l : ByteArray) : (⟨l.data.toList.toArray⟩ : ByteArray) = l := by cases l; simp
theorem strV_of {B : ByteArray} {l : List UInt8} (h : B.data.toList = l) : Value.string B = strV l := by subst h; unfold strV; rw [ext_list]
theorem ext_drop (S : ByteArray) (k : Nat) : (S.extract k S.size).data.toList = S.data.toList.drop k := by
  rw [Lib.extract_data]; exact List.take_of_length_le (by rw [List.length_drop]; simp)
theorem ext_take (S : ByteArray) (k : Nat) : (S.extract 0 k).data.toList = S.data.toList.take k := by rw [Lib.extract_data]; simp
set_option maxHeartbeats 1000000 in
theorem cutl_any (S P : ByteArray) (w : World) (hs : S.size ≤ 1000000) (hp : P.size ≤ 1000000) : Calls Tryd.prog 40 #[.string S, .string P] w (fun e w' => e = .returned (.tuple #[strV (cutP S.data.toList P.data.toList).1, .bool (cutP S.data.toList P.data.toList).2]) ∧ w = w') := by
  have hG := pre_any S P w hs hp
  have hP : P.size = P.data.toList.length := by simp
  by_cases h : S.data.toList.take P.data.toList.length = P.data.toList
  · have e1 : preB S.data.toList P.data.toList = true := by unfold preB; simpa using h
    have e2 : cutP S.data.toList P.data.toList = (S.data.toList.drop P.data.toList.length, true) := by unfold cutP; rw [if_pos h]
    have hle : P.size ≤ S.size := by
      have := congrArg List.length h
      simp at this
      omega
    have e3 := strV_of (ext_drop S P.size)
    rw [hP] at e3
    rw [e2]
    dsimp only
    rw [← e3, ← hP]
    rw [e1] at hG
    have HG := Lib.hid hG
    clear hG e1 e2 e3 h hP
    go_enter Tryd.func40, Tryd.ntmps40
    go_wp2_with fail
    refine HG.out.mono ?_
    rintro e w' ⟨rfl, rfl⟩
    go_wp2
    go_ret2
    exact ⟨rfl, rfl⟩
  · have e1 : preB S.data.toList P.data.toList = false := by unfold preB; simpa using h
    have e2 : cutP S.data.toList P.data.toList = (S.data.toList, false) := by unfold cutP; rw [if_neg h]
    rw [e2]
    dsimp only
    rw [← strV_of (B := S) rfl]
    rw [e1] at hG
    have HG := Lib.hid hG
    clear hG e1 e2 h hP
    go_enter Tryd.func40, Tryd.ntmps40
    go_wp2_with fail
    refine HG.out.mono ?_
    rintro e w' ⟨rfl, rfl⟩
    go_wp2
    go_ret2
    exact ⟨rfl, rfl⟩
set_option maxHeartbeats 1000000 in
theorem cut_any (S P : ByteArray) (w : World) (hs : S.size ≤ 1000000) (hp : P.size ≤ 1000000) : Calls Tryd.prog 24 #[.string S, .string P] w (fun e w' => e = .returned (.tuple #[strV (cutP S.data.toList P.data.toList).1, .bool (cutP S.data.toList P.data.toList).2]) ∧ w = w') := by
  have hG := cutl_any S P w hs hp
  obtain ⟨q, hq⟩ : ∃ q, q = cutP S.data.toList P.data.toList := ⟨_, rfl⟩
  rw [← hq] at hG ⊢
  obtain ⟨l, b⟩ := q
  dsimp only at hG ⊢
  unfold strV at hG ⊢
  obtain ⟨X, hX⟩ : ∃ X : ByteArray, X = ⟨l.toArray⟩ := ⟨_, rfl⟩
  rw [← hX] at hG ⊢
  have HG := Lib.hid hG
  clear hG hq hX
  go_enter Tryd.func24, Tryd.ntmps24
  go_wp2_with fail
  refine HG.out.mono ?_
  rintro e w' ⟨rfl, rfl⟩
  go_wp2
  go_ret2
  exact ⟨rfl, rfl⟩
theorem empty_of {D : ByteArray} (h : D.toList.isEmpty = true) : D = ⟨#[]⟩ := by
  rw [Lib.toList_data] at h
  cases D with | mk a => cases a with | mk t => simp at h; rw [h]
theorem nonempty_of {D : ByteArray} (h : D.toList.isEmpty = false) : D.data.toList ≠ [] := by
  rw [Lib.toList_data] at h
  intro e; rw [e] at h; cases h
set_option maxHeartbeats 2000000 in
theorem under_any (D S : ByteArray) (w : World) (hd : D.size ≤ 400000) (hs : S.size ≤ 400000) : Calls Tryd.prog 9 #[.string D, .string S] w (fun e w' => e = .returned (.tuple #[strV (underP D.data.toList S.data.toList).1, .bool (underP D.data.toList S.data.toList).2]) ∧ Below w.heap.size w w') := by
  have hGs := good_any S
  have hGd := good_any D
  obtain ⟨gs, hgs⟩ : ∃ gs, gs = goodB S.data.toList := ⟨_, rfl⟩
  obtain ⟨gd, hgd⟩ : ∃ gd, gd = goodB D.data.toList := ⟨_, rfl⟩
  have hU : underP D.data.toList S.data.toList = (if (gs && (D.data.toList.isEmpty || gd)) = true then (if D.data.toList = [] then (S.data.toList, true) else if S.data.toList.take (D.data.toList.length + 1) = D.data.toList ++ [47] then (S.data.toList.drop (D.data.toList.length + 1), true) else ([], false)) else ([], false)) := by
    rw [hgs, hgd]; rfl
  rw [← hgs] at hGs
  rw [← hgd] at hGd
  have HS := Lib.hid (fun W => hGs W (by omega)); have HD := Lib.hid (fun W => hGd W (by omega))
  rw [hU]
  clear hGs hGd hgs hgd hU
  cases gs
  · rw [if_neg (by simp)]
    dsimp only
    unfold strV
    go_enter Tryd.func9, Tryd.ntmps9
    go_wp2_with fail
    refine (HS.out w).mono ?_
    rintro e w1 ⟨rfl, h1⟩
    have H1 := Lib.hid h1; clear h1
    go_wp2
    go_ret2
    exact ⟨rfl, H1.out⟩
  · cases hD : D.toList.isEmpty
    · have hne := nonempty_of hD
      have hne' : D.data.toList.isEmpty = false := by rw [← Lib.toList_data]; exact hD
      cases gd
      · rw [if_neg (by simp [hne'])]
        dsimp only
        unfold strV
        clear hne hne'
        go_enter Tryd.func9, Tryd.ntmps9
        go_wp2_with fail
        refine (HS.out w).mono ?_
        rintro e w1 ⟨rfl, h1⟩
        have H1 := Lib.hid h1; clear h1
        go_wp2_with fail
        refine (HD.out w1).mono ?_
        rintro e w2 ⟨rfl, h2⟩
        have H2 := Lib.hid (H1.out.trans (h2.mono H1.out.size)); clear h2
        go_wp2
        go_ret2
        exact ⟨rfl, H2.out⟩
      · rw [if_pos (by simp), if_neg hne]
        have hC := fun W => cut_any S (D ++ ⟨#[47]⟩) W (by omega) (by rw [ByteArray.size_append]; show D.size + 1 ≤ _; omega)
        have e1 : (D ++ ⟨#[47]⟩ : ByteArray).data.toList = D.data.toList ++ [47] := by simp
        rw [e1] at hC
        unfold cutP at hC
        rw [List.length_append] at hC
        have e2 : D.data.toList.length + ([47] : List UInt8).length = D.data.toList.length + 1 := rfl
        rw [e2] at hC
        by_cases hc : S.data.toList.take (D.data.toList.length + 1) = D.data.toList ++ [47]
        · rw [if_pos hc] at hC
          rw [if_pos hc]
          dsimp only at hC ⊢
          unfold strV at hC ⊢
          obtain ⟨X, hX⟩ : ∃ X : ByteArray, X = ⟨(S.data.toList.drop (D.data.toList.length + 1)).toArray⟩ := ⟨_, rfl⟩
          rw [← hX] at hC ⊢
          have HC := Lib.hid hC
          clear hC hX hc e1 e2 hne hne'
          go_enter Tryd.func9, Tryd.ntmps9
          go_wp2_with fail
          refine (HS.out w).mono ?_
          rintro e w1 ⟨rfl, h1⟩
          have H1 := Lib.hid h1; clear h1
          go_wp2_with fail
          refine (HD.out w1).mono ?_
          rintro e w2 ⟨rfl, h2⟩
          have H2 := Lib.hid (H1.out.trans (h2.mono H1.out.size)); clear h2
          go_wp2_with fail
          refine (HC.out w2).mono ?_
          rintro e w3 ⟨rfl, rfl⟩
          go_wp2
          go_ret2
          exact ⟨rfl, H2.out⟩
        · rw [if_neg hc] at hC
          rw [if_neg hc]
          dsimp only at hC ⊢
          unfold strV at hC ⊢
          obtain ⟨X, hX⟩ : ∃ X : ByteArray, X = ⟨S.data.toList.toArray⟩ := ⟨_, rfl⟩
          rw [← hX] at hC
          have HC := Lib.hid hC
          clear hC hX hc e1 e2 hne hne'
          go_enter Tryd.func9, Tryd.ntmps9
          go_wp2_with fail
          refine (HS.out w).mono ?_
          rintro e w1 ⟨rfl, h1⟩
          have H1 := Lib.hid h1; clear h1
          go_wp2_with fail
          refine (HD.out w1).mono ?_
          rintro e w2 ⟨rfl, h2⟩
          have H2 := Lib.hid (H1.out.trans (h2.mono H1.out.size)); clear h2
          go_wp2_with fail
          refine (HC.out w2).mono ?_
          rintro e w3 ⟨rfl, rfl⟩
          go_wp2
          go_ret2
          exact ⟨rfl, H2.out⟩
    · obtain rfl := empty_of hD
      rw [if_pos (by simp), if_pos rfl]
      dsimp only
      rw [← strV_of (B := S) rfl]
      clear hD
      go_enter Tryd.func9, Tryd.ntmps9
      go_wp2_with fail
      refine (HS.out w).mono ?_
      rintro e w1 ⟨rfl, h1⟩
      have H1 := Lib.hid h1; clear h1
      go_wp2
      go_ret2
      exact ⟨rfl, H1.out⟩
set_option maxHeartbeats 2000000 in
theorem join_any (D S : ByteArray) (w : World) (hd : D.size ≤ 400000) (hs : S.size ≤ 400000) : Calls Tryd.prog 25 #[.string D, .string S] w (fun e w' => e = .returned (.tuple #[strV (joinP D.data.toList S.data.toList).1, .int .i64 (joinP D.data.toList S.data.toList).2]) ∧ Below w.heap.size w w') := by
  have hGs := good_any S
  cases hD : D.toList.isEmpty
  · have hne := nonempty_of hD
    have hne' : D.data.toList.isEmpty = false := by rw [← Lib.toList_data]; exact hD
    have hGd := good_any D
    have hGo := good_any (D ++ ⟨#[47]⟩ ++ S)
    have e1 : (D ++ ⟨#[47]⟩ ++ S : ByteArray).data.toList = D.data.toList ++ 47 :: S.data.toList := by simp
    have hz : (D ++ ⟨#[47]⟩ ++ S : ByteArray).size ≤ 900000 := by
      rw [ByteArray.size_append, ByteArray.size_append]; show D.size + 1 + S.size ≤ _; omega
    rw [e1] at hGo
    have e3 := strV_of e1
    obtain ⟨gs, hgs⟩ : ∃ gs, gs = goodB S.data.toList := ⟨_, rfl⟩
    obtain ⟨gd, hgd⟩ : ∃ gd, gd = goodB D.data.toList := ⟨_, rfl⟩
    obtain ⟨go, hgo⟩ : ∃ go, go = goodB (D.data.toList ++ 47 :: S.data.toList) := ⟨_, rfl⟩
    have hJ : joinP D.data.toList S.data.toList = (if (gd && gs && go) = true then (D.data.toList ++ 47 :: S.data.toList, 0) else ([], 10)) := by
      unfold joinP placeB putBehind
      rw [if_neg hne, ← hgs, ← hgd, ← hgo, hne']; rfl
    rw [← hgs] at hGs
    rw [← hgd] at hGd
    rw [← hgo] at hGo
    have HS := Lib.hid (fun W => hGs W (by omega)); have HD := Lib.hid (fun W => hGd W (by omega)); have HO := Lib.hid (fun W => hGo W hz)
    rw [hJ]
    have hsz : D.size + 1 + S.size ≤ 900000 := by omega
    cases gd
    · rw [if_neg (by simp)]
      dsimp only
      unfold strV
      clear hGs hGd hGo hgs hgd hgo hJ e1 e3 hz hne hne'
      go_enter Tryd.func25, Tryd.ntmps25
      go_wp2_with fail
      refine (HD.out w).mono ?_
      rintro e w1 ⟨rfl, h1⟩
      have H1 := Lib.hid h1; clear h1
      go_wp2
      go_ret2
      exact ⟨rfl, H1.out⟩
    · cases gs
      · rw [if_neg (by simp)]
        dsimp only
        unfold strV
        clear hGs hGd hGo hgs hgd hgo hJ e1 e3 hz hne hne'
        go_enter Tryd.func25, Tryd.ntmps25
        go_wp2_with fail
        refine (HD.out w).mono ?_
        rintro e w1 ⟨rfl, h1⟩
        have H1 := Lib.hid h1; clear h1
        go_wp2_with fail
        refine (HS.out w1).mono ?_
        rintro e w2 ⟨rfl, h2⟩
        have H2 := Lib.hid (H1.out.trans (h2.mono H1.out.size)); clear h2
        go_wp2
        go_ret2
        exact ⟨rfl, H2.out⟩
      · cases go
        · rw [if_neg (by simp)]
          dsimp only
          unfold strV
          clear hGs hGd hGo hgs hgd hgo hJ e1 e3 hz hne hne'
          go_enter Tryd.func25, Tryd.ntmps25
          go_wp2_with fail
          refine (HD.out w).mono ?_
          rintro e w1 ⟨rfl, h1⟩
          have H1 := Lib.hid h1; clear h1
          go_wp2_with fail
          refine (HS.out w1).mono ?_
          rintro e w2 ⟨rfl, h2⟩
          have H2 := Lib.hid (H1.out.trans (h2.mono H1.out.size)); clear h2
          go_wp2_with fail
          refine (HO.out w2).mono ?_
          rintro e w3 ⟨rfl, h3⟩
          have H3 := Lib.hid (H2.out.trans (h3.mono H2.out.size)); clear h3
          go_wp2
          go_ret2
          exact ⟨rfl, H3.out⟩
        · rw [if_pos (by simp)]
          dsimp only
          rw [← e3]
          clear hGs hGd hGo hgs hgd hgo hJ e1 e3 hz hne hne'
          go_enter Tryd.func25, Tryd.ntmps25
          go_wp2_with fail
          refine (HD.out w).mono ?_
          rintro e w1 ⟨rfl, h1⟩
          have H1 := Lib.hid h1; clear h1
          go_wp2_with fail
          refine (HS.out w1).mono ?_
          rintro e w2 ⟨rfl, h2⟩
          have H2 := Lib.hid (H1.out.trans (h2.mono H1.out.size)); clear h2
          go_wp2_with fail
          refine (HO.out w2).mono ?_
          rintro e w3 ⟨rfl, h3⟩
          have H3 := Lib.hid (H2.out.trans (h3.mono H2.out.size)); clear h3
          go_wp2
          go_ret2
          exact ⟨rfl, H3.out⟩
  · obtain rfl := empty_of hD
    obtain ⟨gs, hgs⟩ : ∃ gs, gs = goodB S.data.toList := ⟨_, rfl⟩
    have hJ : joinP (ByteArray.mk #[]).data.toList S.data.toList = (if gs = true then (S.data.toList, 0) else ([], 10)) := by
      unfold joinP placeB putBehind
      rw [if_pos rfl, ← hgs]; cases gs <;> rfl
    rw [← hgs] at hGs
    rw [hJ]
    have HS := Lib.hid (fun W => hGs W (by omega))
    clear hGs hD hJ hgs
    cases gs
    · rw [if_neg (by simp)]
      dsimp only
      unfold strV
      go_enter Tryd.func25, Tryd.ntmps25
      go_wp2_with fail
      refine (HS.out w).mono ?_
      rintro e w1 ⟨rfl, h1⟩
      have H1 := Lib.hid h1; clear h1
      go_wp2
      go_ret2
      exact ⟨rfl, H1.out⟩
    · rw [if_pos rfl]
      dsimp only
      rw [← strV_of (B := S) rfl]
      go_enter Tryd.func25, Tryd.ntmps25
      go_wp2_with fail
      refine (HS.out w).mono ?_
      rintro e w1 ⟨rfl, h1⟩
      have H1 := Lib.hid h1; clear h1
      go_wp2_with fail
      refine (HS.out w1).mono ?_
      rintro e w2 ⟨rfl, h2⟩
      have H2 := Lib.hid (H1.out.trans (h2.mono H1.out.size)); clear h2
      go_wp2
      go_ret2
      exact ⟨rfl, H2.out⟩
end Go.Proofs.YtjcimajkjnjdpaaDoor
