/- DERIVED. PathJoins: the reference's Join, Base, Under; the law's walk. -/
import Derived.Test.YtjcimajkjnjdpaaGreatDoorPathUnderR
namespace Go.Proofs.YtjcimajkjnjdpaaGreatDoor
open Go.RowKit
set_option linter.unusedVariables false

set_option maxHeartbeats 2000000 in
theorem rjoin_any (D S : ByteArray) (w : World) (hd : D.size ≤ 400000) (hs : S.size ≤ 400000) : Calls Tryz.prog 51 #[.string D, .string S] w (fun e w' => e = .returned (.tuple #[strV (joinP D.data.toList S.data.toList).1, .int .i64 (joinP D.data.toList S.data.toList).2]) ∧ Below w.heap.size w w') := by
  have hGs := rgood_any S
  obtain ⟨gs, hgs⟩ : ∃ gs, gs = goodB S.data.toList := ⟨_, rfl⟩
  rw [← hgs] at hGs
  have HS := Lib.hid (fun W => hGs W (by omega))
  cases gs
  · have hJ : joinP D.data.toList S.data.toList = ([], 10) := by
      unfold joinP
      rw [← hgs, Bool.and_false, Bool.false_and]; rfl
    rw [hJ]
    dsimp only
    unfold strV
    clear hGs hJ hgs
    go_enter Tryz.func51, Tryz.ntmps51
    go_wp2_with fail
    refine (HS.out w).mono ?_
    rintro e w1 ⟨rfl, h1⟩
    have H1 := Lib.hid h1; clear h1
    go_wp2
    go_ret2
    exact ⟨rfl, H1.out⟩
  · cases hD : D.toList.isEmpty
    · have hne := nonempty_of hD
      have hne' : D.data.toList.isEmpty = false := by rw [← Lib.toList_data]; exact hD
      have hGd := rgood_any D
      have hGo := rgood_any (D ++ ⟨#[47]⟩ ++ S)
      have e1 : (D ++ ⟨#[47]⟩ ++ S : ByteArray).data.toList = D.data.toList ++ 47 :: S.data.toList := by simp
      have hz : (D ++ ⟨#[47]⟩ ++ S : ByteArray).size ≤ 900000 := by
        rw [ByteArray.size_append, ByteArray.size_append]; show D.size + 1 + S.size ≤ _; omega
      rw [e1] at hGo
      have e3 := strV_of e1
      obtain ⟨gd, hgd⟩ : ∃ gd, gd = goodB D.data.toList := ⟨_, rfl⟩
      obtain ⟨go, hgo⟩ : ∃ go, go = goodB (D.data.toList ++ 47 :: S.data.toList) := ⟨_, rfl⟩
      have hJ : joinP D.data.toList S.data.toList = (if (gd && go) = true then (D.data.toList ++ 47 :: S.data.toList, 0) else ([], 10)) := by
        unfold joinP placeB putBehind
        rw [if_neg hne, ← hgs, ← hgd, ← hgo, hne']; cases gd <;> rfl
      rw [← hgd] at hGd
      rw [← hgo] at hGo
      have HD := Lib.hid (fun W => hGd W (by omega)); have HO := Lib.hid (fun W => hGo W hz)
      rw [hJ]
      have hsz : D.size + 1 + S.size ≤ 900000 := by omega
      cases gd
      · rw [if_neg (by simp)]
        dsimp only
        unfold strV
        clear hGs hGd hGo hgs hgd hgo hJ e1 e3 hz hne hne'
        go_enter Tryz.func51, Tryz.ntmps51
        go_wp2_with fail
        refine (HS.out w).mono ?_
        rintro e w1 ⟨rfl, h1⟩
        have H1 := Lib.hid h1; clear h1
        go_wp2_with fail
        refine (HD.out w1).mono ?_
        rintro e w2 ⟨rfl, h2⟩
        have H2 := Lib.hid (H1.out.trans (h2.mono H1.out.size)); clear h2
        go_wp2
        go_ret2
        exact ⟨rfl, H2.out⟩
      · cases go
        · rw [if_neg (by simp)]
          dsimp only
          unfold strV
          clear hGs hGd hGo hgs hgd hgo hJ e1 e3 hz hne hne'
          go_enter Tryz.func51, Tryz.ntmps51
          go_wp2_with fail
          refine (HS.out w).mono ?_
          rintro e w1 ⟨rfl, h1⟩
          have H1 := Lib.hid h1; clear h1
          go_wp2_with fail
          refine (HD.out w1).mono ?_
          rintro e w2 ⟨rfl, h2⟩
          have H2 := Lib.hid (H1.out.trans (h2.mono H1.out.size)); clear h2
          go_wp2_with fail
          refine (HO.out w2).mono ?_
          rintro e w3 ⟨rfl, h3⟩
          have H3 := Lib.hid (H2.out.trans (h3.mono H2.out.size)); clear h3
          go_wp2
          go_ret2
          exact ⟨rfl, H3.out⟩
        · rw [if_pos (by simp)]
          dsimp only
          rw [← e3]
          clear hGs hGd hGo hgs hgd hgo hJ e1 e3 hz hne hne'
          go_enter Tryz.func51, Tryz.ntmps51
          go_wp2_with fail
          refine (HS.out w).mono ?_
          rintro e w1 ⟨rfl, h1⟩
          have H1 := Lib.hid h1; clear h1
          go_wp2_with fail
          refine (HD.out w1).mono ?_
          rintro e w2 ⟨rfl, h2⟩
          have H2 := Lib.hid (H1.out.trans (h2.mono H1.out.size)); clear h2
          go_wp2_with fail
          refine (HO.out w2).mono ?_
          rintro e w3 ⟨rfl, h3⟩
          have H3 := Lib.hid (H2.out.trans (h3.mono H2.out.size)); clear h3
          go_wp2
          go_ret2
          exact ⟨rfl, H3.out⟩
    · obtain rfl := empty_of hD
      have hJ : joinP (ByteArray.mk #[]).data.toList S.data.toList = (S.data.toList, 0) := by
        unfold joinP placeB putBehind
        rw [if_pos rfl, ← hgs]; rfl
      rw [hJ]
      clear hGs hD hJ hgs
      dsimp only
      rw [← strV_of (B := S) rfl]
      go_enter Tryz.func51, Tryz.ntmps51
      go_wp2_with fail
      refine (HS.out w).mono ?_
      rintro e w1 ⟨rfl, h1⟩
      have H1 := Lib.hid h1; clear h1
      go_wp2
      go_ret2
      exact ⟨rfl, H1.out⟩
end Go.Proofs.YtjcimajkjnjdpaaGreatDoor
