/- DERIVED. PathJoins: the reference's Join, Base, Under; the law's walk. -/
import Derived.Test.YtjcimajkjnjdpabGreatDoorPathRefV
namespace Go.Proofs.YtjcimajkjnjdpabGreatDoor
open Go.RowKit
set_option linter.unusedVariables false

theorem take_stroke {d s : List UInt8} (h : s.take (d.length + 1) = d ++ [47]) : s = d ++ 47 :: s.drop (d.length + 1) := by
  rw [← List.take_append_drop (d.length + 1) s, h]
  simp
theorem take_stroke_iff (d s : List UInt8) : s.take (d.length + 1) = d ++ [47] ↔ (s.take d.length = d ∧ s[d.length]? = some 47) := by
  constructor
  · intro h
    have hs := take_stroke h
    constructor
    · rw [hs]; simp
    · rw [hs]; simp
  · rintro ⟨h1, h2⟩
    rw [List.take_add_one, h1, h2]; rfl
set_option maxHeartbeats 4000000 in
theorem runder_any (D S : ByteArray) (w : World) (hd : D.size ≤ 400000) (hs : S.size ≤ 400000) : Calls Tryz.prog 82 #[.string D, .string S] w (fun e w' => e = .returned (.tuple #[strV (underP D.data.toList S.data.toList).1, .bool (underP D.data.toList S.data.toList).2]) ∧ Below w.heap.size w w') := by
  have hGs := rgood_any S
  have hGd := rgood_any D
  obtain ⟨gs, hgs⟩ : ∃ gs, gs = goodB S.data.toList := ⟨_, rfl⟩
  obtain ⟨gd, hgd⟩ : ∃ gd, gd = goodB D.data.toList := ⟨_, rfl⟩
  have hU : underP D.data.toList S.data.toList = (if (gs && (D.data.toList.isEmpty || gd)) = true then (if D.data.toList = [] then (S.data.toList, true) else if S.data.toList.take (D.data.toList.length + 1) = D.data.toList ++ [47] then (S.data.toList.drop (D.data.toList.length + 1), true) else ([], false)) else ([], false)) := by
    rw [hgs, hgd]; rfl
  rw [← hgs] at hGs
  rw [← hgd] at hGd
  have HS := Lib.hid (fun W => hGs W (by omega)); have HD := Lib.hid (fun W => hGd W (by omega))
  rw [hU]
  clear hGs hGd hgs hgd hU
  have hdl : D.data.toList.length = D.size := by simp
  cases gs
  · rw [if_neg (by simp)]
    dsimp only
    unfold strV
    clear hdl
    go_enter Tryz.func82, Tryz.ntmps82
    go_wp2_with fail
    refine (HS.out w).mono ?_
    rintro e w1 ⟨rfl, h1⟩
    have H1 := Lib.hid h1; clear h1
    go_wp2
    go_ret2
    exact ⟨rfl, H1.out⟩
  · cases hD : D.toList.isEmpty
    · have hne := nonempty_of hD
      have hne' : D.data.toList.isEmpty = false := by rw [← Lib.toList_data]; exact hD
      cases gd
      · rw [if_neg (by simp [hne'])]
        dsimp only
        unfold strV
        clear hne hne' hdl
        go_enter Tryz.func82, Tryz.ntmps82
        go_wp2_with fail
        refine (HS.out w).mono ?_
        rintro e w1 ⟨rfl, h1⟩
        have H1 := Lib.hid h1; clear h1
        go_wp2_with fail
        refine (HD.out w1).mono ?_
        rintro e w2 ⟨rfl, h2⟩
        have H2 := Lib.hid (H1.out.trans (h2.mono H1.out.size)); clear h2
        go_wp2
        go_ret2
        exact ⟨rfl, H2.out⟩
      · rw [if_pos (by simp), if_neg hne]
        by_cases hlt : D.size < S.size
        · have hget := byte_at S D.size hlt
          have heq : ((S.extract 0 D.size).toList == D.toList) = decide (S.data.toList.take D.data.toList.length = D.data.toList) := by
            rw [Lib.toList_data, Lib.toList_data, ext_take, hdl, Bool.eq_iff_iff, beq_iff_eq, decide_eq_true_iff]
          by_cases hc1 : S.data.toList.take D.data.toList.length = D.data.toList
          · have e1 : ((S.extract 0 D.size).toList == D.toList) = true := by rw [heq]; simpa using hc1
            have e2 : ((S.extract 0 D.size).toList != D.toList) = false := by show (!_) = _; rw [e1]; rfl
            by_cases h47 : (S[D.size]'hlt).toNat = 47
            · have h47' : ((S[D.size]'hlt).toNat : Int) = 47 := by omega
              rw [if_pos ((take_stroke_iff _ _).2 ⟨hc1, by rw [hdl, hget, Option.some.injEq, ← UInt8.toNat_inj]; exact h47⟩)]
              dsimp only
              rw [hdl, ← strV_of (ext_drop S (D.size + 1))]
              clear hget heq hc1 h47 hdl hne hne'
              go_enter Tryz.func82, Tryz.ntmps82
              go_wp2_with fail
              refine (HS.out w).mono ?_
              rintro e w1 ⟨rfl, h1⟩
              have H1 := Lib.hid h1; clear h1
              go_wp2_with fail
              refine (HD.out w1).mono ?_
              rintro e w2 ⟨rfl, h2⟩
              have H2 := Lib.hid (H1.out.trans (h2.mono H1.out.size)); clear h2
              go_wp2
              go_ret2
              exact ⟨rfl, H2.out⟩
            · have h47' : ¬ ((S[D.size]'hlt).toNat : Int) = 47 := by omega
              have h47n : (((S[D.size]'hlt).toNat : Int) != 47) = true := by simpa using h47'
              rw [if_neg (by intro h; have := ((take_stroke_iff _ _).1 h).2; rw [hdl, hget] at this; apply h47; rw [Option.some.inj this]; rfl)]
              dsimp only
              unfold strV
              clear hget heq hc1 h47 hdl hne hne'
              go_enter Tryz.func82, Tryz.ntmps82
              go_wp2_with fail
              refine (HS.out w).mono ?_
              rintro e w1 ⟨rfl, h1⟩
              have H1 := Lib.hid h1; clear h1
              go_wp2_with fail
              refine (HD.out w1).mono ?_
              rintro e w2 ⟨rfl, h2⟩
              have H2 := Lib.hid (H1.out.trans (h2.mono H1.out.size)); clear h2
              go_wp2
              go_ret2
              exact ⟨rfl, H2.out⟩
          · have e1 : ((S.extract 0 D.size).toList == D.toList) = false := by rw [heq]; simpa using hc1
            have e2 : ((S.extract 0 D.size).toList != D.toList) = true := by show (!_) = _; rw [e1]; rfl
            rw [if_neg (by intro h; exact hc1 ((take_stroke_iff _ _).1 h).1)]
            dsimp only
            unfold strV
            clear hget heq hc1 hdl hne hne'
            go_enter Tryz.func82, Tryz.ntmps82
            go_wp2_with fail
            refine (HS.out w).mono ?_
            rintro e w1 ⟨rfl, h1⟩
            have H1 := Lib.hid h1; clear h1
            go_wp2_with fail
            refine (HD.out w1).mono ?_
            rintro e w2 ⟨rfl, h2⟩
            have H2 := Lib.hid (H1.out.trans (h2.mono H1.out.size)); clear h2
            go_wp2
            go_ret2
            exact ⟨rfl, H2.out⟩
        · rw [if_neg (by
            intro h
            have := ((take_stroke_iff _ _).1 h).2
            have := (List.getElem?_eq_some_iff.1 this).1
            rw [hdl] at this
            simp at this
            omega)]
          dsimp only
          unfold strV
          clear hdl hne hne'
          go_enter Tryz.func82, Tryz.ntmps82
          go_wp2_with fail
          refine (HS.out w).mono ?_
          rintro e w1 ⟨rfl, h1⟩
          have H1 := Lib.hid h1; clear h1
          go_wp2_with fail
          refine (HD.out w1).mono ?_
          rintro e w2 ⟨rfl, h2⟩
          have H2 := Lib.hid (H1.out.trans (h2.mono H1.out.size)); clear h2
          go_wp2
          go_ret2
          exact ⟨rfl, H2.out⟩
    · obtain rfl := empty_of hD
      rw [if_pos (by simp), if_pos rfl]
      dsimp only
      rw [← strV_of (B := S) rfl]
      clear hD hdl
      go_enter Tryz.func82, Tryz.ntmps82
      go_wp2_with fail
      refine (HS.out w).mono ?_
      rintro e w1 ⟨rfl, h1⟩
      have H1 := Lib.hid h1; clear h1
      go_wp2
      go_ret2
      exact ⟨rfl, H1.out⟩
end Go.Proofs.YtjcimajkjnjdpabGreatDoor
