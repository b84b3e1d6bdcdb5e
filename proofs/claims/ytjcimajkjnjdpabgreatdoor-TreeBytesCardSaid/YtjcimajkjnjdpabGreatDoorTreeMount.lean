/- DERIVED. tree.Mount, walked. -/
import Derived.Test.YtjcimajkjnjdpabGreatDoorTreeGood
import Derived.Deep.DeepCutAuto
namespace Go.Proofs.YtjcimajkjnjdpabGreatDoor
open Go.RowKit
set_option linter.unusedVariables false

/-- A file behind a place. -/
def behF (d : List UInt8) (p : Pr) : Pr := (putBehind d p.1, p.2)
/-- What Mount answers. -/
def mountT (t : List Pr) (d : List UInt8) (s : List Pr) : Int × List Pr :=
  if goodT t = true ∧ goodT s = true then (if placeB d = true ∧ s.all (fun p => goodB (putBehind d p.1)) = true then makeT (t ++ s.map (behF d)) else (10, [])) else (1, [])
theorem goodT_files {s : List Pr} (h : goodT s = true) : s.length ≤ 32 ∧ firstBad s = none ∧ Srt s ∧ clashB s = false := by
  have h := goodT_iff.1 h
  unfold makeT at h
  split at h
  · cases h
  · rename_i hl
    cases hf : firstBad s with
    | some e =>
      rw [hf] at h
      simp only [Prod.mk.injEq] at h
      obtain ⟨_, rfl⟩ := h
      simp [firstBad] at hf
    | none =>
      rw [hf] at h
      simp only at h
      split at h
      · cases h
      · rename_i ht
        split at h
        · cases h
        · rename_i hc
          simp only [Prod.mk.injEq, true_and] at h
          have hs := (sortT_is s (twice_false.1 (by simpa using ht))).1
          rw [h] at hs
          exact ⟨by omega, rfl, hs, by simpa using hc⟩
theorem joinP_of {d s : List UInt8} (hd : placeB d = true) (hs : goodB s = true) : joinP d s = if goodB (putBehind d s) = true then (putBehind d s, 0) else ([], 10) := by
  unfold joinP
  rw [hd, hs]
  simp
theorem good_short {p : List UInt8} (h : goodB p = true) : p.length ≤ 128 := by
  unfold goodB at h
  simp only [Bool.and_eq_true, decide_eq_true_iff] at h
  exact h.1.1
theorem pr_src {w : World} {vb : Nat} {u v : Value} (h : w.heap[vb]? = some (.cells #[u, v] 35 (0, 0))) (hu : u.oneCell' = true) (hv : v.oneCell' = true) : Src Tryz.prog 2 22 (.slice (some ⟨vb, 0, none⟩) 1 1) 1 [u, v] w := by
  refine Src.ofSlice w Tryz.underlying22 ⟨vb, 0, none⟩ 1 1 [u, v] rfl (fun j x hj => ?_) (fun x hx => ?_)
  · rw [Addr.add_lit, Nat.zero_add, cell_of_heap h, ← Array.getElem?_toList]
    exact hj
  · simp at hx
    rcases hx with rfl | rfl <;> assumption
theorem mount_next {w : World} {base : Nat} {v : Value} {n k : Nat} {ts ss : List Pr} {d : List UInt8} {p : Pr} {P S : ByteArray} (h : w.ownsRow base 35 2 v n (pairsV (ts ++ (ss.take k).map (behF d)) ++ [.string P, .string S])) (hp : ss[k]? = some p) (hP : P = ⟨(putBehind d p.1).toArray⟩) (hS : S = ⟨p.2.toArray⟩) :
    w.ownsRow base 35 2 v n (pairsV (ts ++ (ss.take (k + 1)).map (behF d))) := by
  have e : pairsV (ts ++ (ss.take (k + 1)).map (behF d)) = pairsV (ts ++ (ss.take k).map (behF d)) ++ [.string P, .string S] := by
    rw [List.take_add_one, hp, List.map_append, ← List.append_assoc, pairsV_append]
    subst hP; subst hS
    rfl
  rw [e]; exact h
theorem any_ok {ss : List Pr} {P : Pr → Bool} {k : Nat} {p : Pr} (h : (ss.take k).all P = true) (hp : ss[k]? = some p) (hk : P p = true) : (ss.take (k + 1)).all P = true := by
  rw [List.take_add_one, hp, List.all_append, h]
  simp [hk]
theorem owns_mono {w : World} {base base' : Nat} {a : Option Addr} {c : Nat} {ps : List Pr} (h : OwnFl w base a c ps) (hb : base' ≤ base) : OwnFl w base' a c ps := by
  refine ⟨h.1, ?_⟩
  rcases h.2 with h | ⟨g, cap, cur, h1, h2, h3⟩
  · exact .inl h
  · exact .inr ⟨g, cap, cur, h1, Nat.le_trans hb h2, h3⟩
set_option maxRecDepth 100000 in
set_option maxHeartbeats 16000000 in
theorem mount_any (w : World) (a a' : Option Addr) (c c' : Nat) (ts ss : List Pr) (D : ByteArray) (hr : RdFl w a ts) (hs : Sl a ts.length c) (hr' : RdFl w a' ss) (hs' : Sl a' ss.length c') (hl : ts.length ≤ 1000000) (hl' : ss.length ≤ 1000000)
    (hsz : ∀ p ∈ ts, p.1.length ≤ 400000) (hsz' : ∀ p ∈ ss, p.1.length ≤ 400000) (hD : D.size ≤ 400000) :
    Calls Tryz.prog 17 #[.agg #[.slice a ts.length c], .string D, .agg #[.slice a' ss.length c']] w (MakeTo w (mountT ts D.data.toList ss)) := by
  obtain ⟨w1, hw1, hb1, hx1, hz1, hz2⟩ := new_cell w (.slice a ts.length c) 24
  obtain ⟨w2, hw2, hb2, hx2, hz3, hz4⟩ := new_cell w1 (.slice a' ss.length c') 24
  obtain ⟨w3, hw3, hb3, hx3, hz5, hz6⟩ := new_cell w2 (.slice none 0 0) 24
  obtain ⟨n, hnn⟩ : ∃ n, n = ts.length := ⟨_, rfl⟩
  obtain ⟨m, hmm⟩ : ∃ m, m = ss.length := ⟨_, rfl⟩
  obtain ⟨b1, hbe1⟩ : ∃ b, w.heap.size = b := ⟨_, rfl⟩
  obtain ⟨b2, hbe2⟩ : ∃ b, w1.heap.size = b := ⟨_, rfl⟩
  obtain ⟨b, hbe⟩ : ∃ b, w2.heap.size = b := ⟨_, rfl⟩
  have hb23 := hb2.trans (hb3.mono hb2.size)
  have hb13 := hb1.trans (hb23.mono hb1.size)
  have hy1 := (hb23.block _ (by omega)).trans hx1
  have hy2 := (hb3.block _ (by omega)).trans hx2
  have hG1 := fun W (h : Below w3.heap.size w3 W) => tgood_any W a c ts ((hr.below hb13).below h) hs hl hsz
  have hG2 := fun W (h : Below w3.heap.size w3 W) => tgood_any W a' c' ss ((hr'.below hb13).below h) hs' hl' hsz'
  have hout : ∀ x W, mountT ts D.data.toList ss = (x, []) → Below w3.heap.size w3 W → ∀ v, MakeTo w (mountT ts D.data.toList ss) (.returned (.tuple #[.agg #[.slice none 0 0], .int .i64 x])) (W.setCell ⟨b, 0, none⟩ v) := by
    intro x W hx hW v
    rw [hx]
    exact makeTo_err w _ x ((hb13.trans (hW.mono hb13.size)).setCell (p := ⟨b, 0, none⟩) (by show w.heap.size ≤ b; omega) v)
  rw [hbe1] at hy1; rw [hbe2] at hy2; rw [hbe] at hx3
  have hsize : b1 < w3.heap.size ∧ b2 < w3.heap.size ∧ b < w3.heap.size ∧ w.heap.size ≤ w3.heap.size ∧ w.heap.size ≤ b := by omega
  have hkeep : ∀ W, Below w3.heap.size w3 W → W.heap[b1]? = some (.cells #[.slice a n c] 24 (0, 0)) ∧ W.heap[b2]? = some (.cells #[.slice a' m c'] 24 (0, 0)) ∧ W.heap[b]? = some (.cells #[.slice none 0 0] 24 (0, 0)) := fun W h => by
    rw [hnn, hmm]
    exact ⟨(h.block _ hsize.1).trans hy1, (h.block _ hsize.2.1).trans hy2, (h.block _ hsize.2.2.1).trans hx3⟩
  obtain ⟨X, hX⟩ : ∃ X, X = mountT ts D.data.toList ss := ⟨_, rfl⟩
  rw [← hX] at hout ⊢
  rw [← hnn] at hG1 hw1 ⊢
  rw [← hmm] at hG2 hw2 ⊢
  have k1 := cell_of_heap (hkeep w3 (Below.refl _ _)).1 0
  have k2 := cell_of_heap (hkeep w3 (Below.refl _ _)).2.1 0
  have k3 := cell_of_heap (hkeep w3 (Below.refl _ _)).2.2 0
  have HR := Lib.hid (hr.below hb13); have HS := Lib.hid hs; have HR' := Lib.hid (hr'.below hb13); have HS' := Lib.hid hs'
  have HN := Lib.hid hnn; have HM := Lib.hid hmm; have HB := Lib.hid hb13; have HX := Lib.hid hX; have HOUT := Lib.hid hout; have HKEEP := Lib.hid hkeep; have HSIZE := Lib.hid hsize
  have HG1 := Lib.hid hG1; have HG2 := Lib.hid hG2
  clear hr hs hr' hs' hnn hmm hb1 hb2 hb3 hb23 hb13 hX hout hkeep hsize hG1 hG2 hx1 hx2 hx3 hy1 hy2 hz1 hz2 hz3 hz4 hz5 hz6 hl hl' hsz hsz'
  cases hg1 : goodT ts
  · have HE := Lib.hid (show mountT ts D.data.toList ss = (1, []) by unfold mountT; rw [if_neg (by rw [hg1]; simp)])
    have hG := HG1.out w3 (Below.refl _ _)
    rw [hg1] at hG
    have HG := Lib.hid hG
    clear hG hg1 HG1 HG2
    go_enter Tryz.func17, Tryz.ntmps17
    go_wp2_with fail
    refine HG.out.mono ?_
    rintro e w4 ⟨rfl, h4⟩
    have HB4 := Lib.hid h4
    obtain ⟨_, _, hq⟩ := HKEEP.out w4 h4
    have q0 := cell_of_heap hq 0
    have qf := frozen_of_heap hq
    clear h4 hq k1 k2 k3
    go_wp2_with fail
    refine bodyPost_ret (v := .tuple #[.agg #[.slice none 0 0], .int .i64 1]) (by simp [results, Tryz.results17, go_sem, q0]) rfl ?_
    exact HOUT.out _ _ (HX.out.trans HE.out) HB4.out _
  · cases hg2 : goodT ss
    · have HE := Lib.hid (show mountT ts D.data.toList ss = (1, []) by unfold mountT; rw [if_neg (by rw [hg2]; simp)])
      have hG := HG1.out w3 (Below.refl _ _)
      rw [hg1] at hG
      rw [hg2] at HG2
      have HG := Lib.hid hG
      clear hG hg1 hg2 HG1
      go_enter Tryz.func17, Tryz.ntmps17
      go_wp2_with fail
      refine HG.out.mono ?_
      rintro e w4 ⟨rfl, h4⟩
      have HB4 := Lib.hid h4
      have k4 := cell_of_heap (HKEEP.out w4 h4).2.1 0
      clear h4 k1 k2 k3
      go_wp2_with fail
      refine (HG2.out w4 HB4.out).mono ?_
      rintro e w5 ⟨rfl, h5⟩
      have HB5 := Lib.hid (HB4.out.trans (h5.mono HB4.out.size))
      obtain ⟨_, _, hq⟩ := HKEEP.out w5 (HB4.out.trans (h5.mono HB4.out.size))
      have q0 := cell_of_heap hq 0
      have qf := frozen_of_heap hq
      clear h5 k4 hq
      go_wp2_with fail
      refine bodyPost_ret (v := .tuple #[.agg #[.slice none 0 0], .int .i64 1]) (by simp [results, Tryz.results17, go_sem, q0]) rfl ?_
      exact HOUT.out _ _ (HX.out.trans HE.out) HB5.out _

    · have hfl := goodT_files hg2
      cases hpl : placeB D.data.toList
      · have HE := Lib.hid (show mountT ts D.data.toList ss = (10, []) by unfold mountT; rw [if_pos ⟨hg1, hg2⟩, if_neg (by rw [hpl]; simp)])
        have hde : D.toList.isEmpty = false := by
          unfold placeB at hpl
          rw [Lib.toList_data]
          cases h : D.data.toList.isEmpty
          · rfl
          · rw [h] at hpl; cases hpl
        have hdg : goodB D.data.toList = false := by
          unfold placeB at hpl
          cases h : goodB D.data.toList
          · rfl
          · rw [h] at hpl; simp at hpl
        have hG := HG1.out w3 (Below.refl _ _)
        have hGD := fun W => good_any D W (by omega)
        rw [hdg] at hGD
        rw [hg1] at hG
        rw [hg2] at HG2
        have HG := Lib.hid hG; have HGD := Lib.hid hGD
        have hden : (!D.toList.isEmpty) = true := by rw [hde]; rfl
        clear hG hg1 hg2 HG1 hGD hdg hpl hfl
        go_enter Tryz.func17, Tryz.ntmps17
        go_wp2_with fail
        refine HG.out.mono ?_
        rintro e w4 ⟨rfl, h4⟩
        have HB4 := Lib.hid h4
        have k4 := cell_of_heap (HKEEP.out w4 h4).2.1 0
        clear h4 k1 k2 k3
        go_wp2_with fail
        refine (HG2.out w4 HB4.out).mono ?_
        rintro e w5 ⟨rfl, h5⟩
        have HB5 := Lib.hid (HB4.out.trans (h5.mono HB4.out.size))
        clear h5 k4
        go_wp2_with fail
        refine (HGD.out w5).mono ?_
        rintro e w6 ⟨rfl, h6⟩
        have HB6 := Lib.hid (HB5.out.trans (h6.mono HB5.out.size))
        obtain ⟨_, _, hq⟩ := HKEEP.out w6 (HB5.out.trans (h6.mono HB5.out.size))
        have q0 := cell_of_heap hq 0
        have qf := frozen_of_heap hq
        clear h6 hq
        go_wp2_with fail
        refine bodyPost_ret (v := .tuple #[.agg #[.slice none 0 0], .int .i64 10]) (by simp [results, Tryz.results17, go_sem, q0]) rfl ?_
        exact HOUT.out _ _ (HX.out.trans HE.out) HB6.out _

      · have hG := HG1.out w3 (Below.refl _ _)
        rw [hg1] at hG
        rw [hg2] at HG2
        have HG := Lib.hid hG; have HPL := Lib.hid hpl; have HFL := Lib.hid hfl
        have HGG := Lib.hid (And.intro hg1 hg2)
        have hm32 : m ≤ 32 := by rw [HM.out]; exact hfl.1
        have hn32 : n ≤ 32 := by rw [HN.out]; exact (goodT_files hg1).1
        obtain ⟨i0, hi, hzz0, hzz1, hzz2⟩ := info_three infoFile
        have HI := Lib.hid (And.intro hi (And.intro hzz0 (And.intro hzz1 hzz2)))
        clear hG HG1 hfl hg1 hg2 hi hzz0 hzz1 hzz2
        have hway : D.toList.isEmpty = true ∨ (D.toList.isEmpty = false ∧ goodB D.data.toList = true) := by
          unfold placeB at hpl
          rw [Lib.toList_data]
          cases h : D.data.toList.isEmpty
          · rw [h] at hpl; exact .inr ⟨rfl, by simpa using hpl⟩
          · exact .inl rfl
        clear hpl
        go_enter Tryz.func17, Tryz.ntmps17
        go_wp2_with fail
        refine HG.out.mono ?_
        rintro e w4 ⟨rfl, h4⟩
        have HB4 := Lib.hid h4
        have k4 := cell_of_heap (HKEEP.out w4 h4).2.1 0
        clear h4 k1 k2 k3
        go_wp2_with fail
        refine (HG2.out w4 HB4.out).mono ?_
        rintro e w5 ⟨rfl, h5⟩
        have HB5 := Lib.hid (HB4.out.trans (h5.mono HB4.out.size))
        clear h5 k4
        go_upto_region 3 with fail
        go_cut [28] (fun x wx => x = .bool false ∧ Hid (Below w3.heap.size w3 wx))
        case first =>
          rcases hway with hde | ⟨hde, hdg⟩
          · go_wp2_with fail
            go_meet
            exact ⟨rfl, HB5⟩
          · have hGD := fun W => good_any D W (by omega)
            rw [hdg] at hGD
            have HGD := Lib.hid hGD
            have hden : (!D.toList.isEmpty) = true := by rw [hde]; rfl
            clear hGD hdg
            go_wp2_with fail
            refine (HGD.out w5).mono ?_
            rintro e w6 ⟨rfl, h6⟩
            have HB6 := Lib.hid (HB5.out.trans (h6.mono HB5.out.size))
            clear h6
            go_wp2_with fail
            go_meet
            exact ⟨rfl, HB6⟩
        obtain ⟨rfl, hbc⟩ := hcut
        clear hway HB4 HB5
        have q1 := cell_of_heap (HKEEP.out wc hbc.out).1 0
        have hC := clone_any wc a c ts (HR.out.below hbc.out) HS.out (by rw [← HN.out]; omega)
        rw [← HN.out] at hC
        have HC := Lib.hid hC
        clear hC
        go_wp2_with fail
        refine HC.out.mono ?_
        rintro e w6 ⟨a6, c6, rfl, hown, hb6, hc6⟩
        rw [← HN.out]
        have HB6 := Lib.hid (hbc.out.trans (hb6.mono hbc.out.size))
        have HOWN := Lib.hid (show OwnFl w6 w3.heap.size a6 c6 ts from owns_mono hown hbc.out.size)
        have q2 := cell_of_heap (HKEEP.out w6 HB6.out).2.1 0
        clear hown hb6 hc6 q1 HC
        go_wp2_with fail
        clear q2
        go_loopw [8, 36] (fun y x wr => ∃ (k : Nat) (a8 : Option Addr) (c8 : Nat), y = .slice a8 (n + k) c8 ∧ x = .int .i64 k ∧ k ≤ m ∧ Hid (wr.ownsRow w3.heap.size 35 2 (.slice a8 (n + k) c8) (n + k) (pairsV (ts ++ (ss.take k).map (behF D.data.toList)))) ∧ Hid ((ss.take k).all (fun p => goodB (putBehind D.data.toList p.1)) = true) ∧ Hid (Below w3.heap.size w3 wr)) (fun _ x _ => m - (intOf x).toNat)
        case atStart => exact ⟨0, a6, c6, rfl, rfl, Nat.zero_le _, by rw [List.take_zero, List.map_nil, List.append_nil, Nat.add_zero, HN.out]; exact HOWN.out, rfl, HB6⟩
        case round =>
          obtain ⟨k, a8, c8, rfl, rfl, hkm, hown, hall, hbr⟩ := hrel
          by_cases hlt : k < m
          · obtain ⟨p, hp⟩ : ∃ p, ss[k]? = some p := ⟨_, List.getElem?_eq_getElem (by rw [← HM.out]; exact hlt)⟩
            obtain ⟨rb, o, rfl, _, hcs⟩ := HR'.out.below hbr.out (fun e => by rw [e] at hp; cases hp)
            obtain ⟨p0, p1⟩ := hcs k p hp
            have hpg := (firstBad_none.1 HFL.out.2.1) p (List.mem_of_getElem? hp)
            have hps := good_short hpg.1
            obtain ⟨S1, hS1⟩ : ∃ S : ByteArray, S = ⟨p.1.toArray⟩ := ⟨_, rfl⟩
            obtain ⟨S2, hS2⟩ : ∃ S : ByteArray, S = ⟨p.2.toArray⟩ := ⟨_, rfl⟩
            have hS1z : S1.size ≤ 400000 := by rw [hS1, str_size]; omega
            have hS1d : S1.data.toList = p.1 := by rw [hS1]
            have hJ := fun W => join_any D S1 W hD hS1z
            rw [hS1d, joinP_of HPL.out hpg.1] at hJ
            unfold strV at p0 p1
            rw [← hS1] at p0; rw [← hS2] at p1
            obtain ⟨w7, hw7, hb7, hfx, _, _⟩ := new_two wr (.string S1) (.string S2) 35
            have f0 := cell_of_heap hfx 0
            have HFX := Lib.hid hfx
            have HB7 := Lib.hid (hbr.out.trans (hb7.mono hbr.out.size))
            have HOWN7 := Lib.hid (ownsRow_keep hown.out (fun g hg => hb7.block g (owns_lt hown.out g hg)))
            have HP := Lib.hid hp; have HS2 := Lib.hid hS2
            clear hcs hfx hp hS1 hS2 hS1z hS1d hpg hps hb7
            cases hgo : goodB (putBehind D.data.toList p.1)
            · rw [hgo, if_neg (by simp)] at hJ
              have HJ := Lib.hid hJ
              have HE := Lib.hid (show mountT ts D.data.toList ss = (10, []) by
                unfold mountT
                rw [if_pos HGG.out, if_neg (fun h => by
                  have := List.all_eq_true.1 h.2 p (List.mem_of_getElem? HP.out)
                  rw [hgo] at this; cases this)])
              clear hJ hgo
              unfold strV at HJ
              go_wp2_with fail
              refine (HJ.out w7).mono ?_
              rintro e w8 ⟨rfl, h8⟩
              have HB8 := Lib.hid (HB7.out.trans (h8.mono HB7.out.size))
              have hq := (HKEEP.out w8 HB8.out).2.2
              have q0 := cell_of_heap hq 0
              have qf := frozen_of_heap hq
              clear h8 hq f0
              go_wp2_with fail
              refine bodyPost_ret (v := .tuple #[.agg #[.slice none 0 0], .int .i64 10]) (by simp [results, Tryz.results17, go_sem, q0]) rfl ?_
              exact HOUT.out _ _ (HX.out.trans HE.out) HB8.out _
            · rw [hgo, if_pos rfl] at hJ
              obtain ⟨P, hP⟩ : ∃ P : ByteArray, P = ⟨(putBehind D.data.toList p.1).toArray⟩ := ⟨_, rfl⟩
              dsimp only at hJ
              unfold strV at hJ
              rw [← hP] at hJ
              have HJ := Lib.hid hJ; have HP2 := Lib.hid hP; have HGO := Lib.hid hgo
              clear hJ hgo hP
              go_wp2_with fail
              refine (HJ.out w7).mono ?_
              rintro e w8 ⟨rfl, h8⟩
              have HB8 := Lib.hid (HB7.out.trans (h8.mono HB7.out.size))
              have f1 := cell_of_heap ((h8.block _ (lt_of_heap HFX.out)).trans HFX.out) 1
              have hsrc := pr_src (heap_alloc_new w8 (.cells #[.string P, .string S2] 35)) rfl rfl
              have HSRC := Lib.hid hsrc
              have HO9 := Lib.hid (ownsRow_keep HOWN7.out (w' := w8.alloc (.cells #[.string P, .string S2] 35)) (fun g hg => (Below.heap_alloc w8 _ g (by have := owns_lt HOWN7.out g hg; have := h8.size; omega)).trans (h8.block g (owns_lt HOWN7.out g hg))))
              have HZ9 := Lib.hid (show w3.heap.size ≤ (w8.alloc (.cells #[.string P, .string S2] 35)).heap.size from by have := HB8.out.size; simp; omega)
              clear h8 f0 hsrc
              go_wp2_with (first | (at_builtin; refine wpList_append_srcs rfl (.tmp 51) (.tmp 56) 22 22 rfl w3.heap.size 35 i0 _ 2 32 Tryz.underlying22 HI.out.1 HI.out.2.1 HI.out.2.2.1 HI.out.2.2.2 rfl (by decide) _ rfl (n + k) _ HO9.out _ rfl _ _ HSRC.out (by unfold maxLen; omega) (by omega) HZ9.out ?_; intro a' c' w9 hown9 hgrow _ hblk; have HNEXT := Lib.hid hown9; have HGROW := Lib.hid hgrow; clear hown9 hgrow hblk) | fail)
              go_roundw
              case rel => exact ⟨k + 1, a', c', rfl, by go_num, hlt, by rw [show (n + (k + 1)) = n + k + 1 by omega]; exact mount_next HNEXT.out HP.out HP2.out HS2.out, any_ok hall.out HP.out HGO.out, grow_below (n := 0) HB8.out HGROW.out (fun g hg => owns_ge HO9.out g hg)⟩
              case measure => simp [intOf]; omega
          · obtain rfl : k = m := by omega
            have hall2 : ss.all (fun p => goodB (putBehind D.data.toList p.1)) = true := by
              have := hall.out
              rwa [List.take_of_length_le (by rw [← HM.out]; exact Nat.le_refl _)] at this
            have hE : mountT ts D.data.toList ss = makeT (ts ++ ss.map (behF D.data.toList)) := by
              unfold mountT
              rw [if_pos HGG.out, if_pos ⟨HPL.out, hall2⟩]
            have ho := hown.out
            rw [List.take_of_length_le (by rw [← HM.out]; exact Nat.le_refl _)] at ho
            obtain ⟨L, hL⟩ : ∃ L, L = ts ++ ss.map (behF D.data.toList) := ⟨_, rfl⟩
            rw [← hL] at ho hE
            have hlen : n + k = L.length := by rw [hL, List.length_append, List.length_map, ← HN.out, ← HM.out]
            have hrow := owns_rowAt (show OwnFl wr w3.heap.size a8 c8 L by unfold OwnFl; rw [← hlen]; exact ho)
            have hM := make_any wr a8 c8 L hrow.rd hrow.sl (by omega) (fun p hp => by
              rw [hL] at hp
              rcases List.mem_append.1 hp with h | h
              · have := good_short ((firstBad_none.1 (goodT_files HGG.out.1).2.1) p h).1
                omega
              · obtain ⟨q, hq, rfl⟩ := List.mem_map.1 h
                have := good_short (List.all_eq_true.1 hall2 q hq)
                show (putBehind D.data.toList q.1).length ≤ _
                omega)
            rw [← hlen, ← hE, ← HX.out] at hM
            obtain ⟨x, qs⟩ := X
            obtain ⟨q, hq⟩ : ∃ q, q = qs.length := ⟨_, rfl⟩
            unfold MakeTo at hM HOUT ⊢
            dsimp only at hM ⊢
            rw [← hq] at hM ⊢
            have HMK := Lib.hid hM; have HQ := Lib.hid hq
            clear hM hrow hlen ho hL hE hall2 hown hall HOUT hq
            go_wp2_with fail
            refine HMK.out.mono ?_
            rintro e w7 ⟨a7, c7, rfl, hrow, hb7⟩
            have HB7 := Lib.hid (hbr.out.trans (hb7.mono hbr.out.size))
            have hq := (HKEEP.out w7 HB7.out).2.2
            have q0 := cell_of_heap hq 0
            have qf := frozen_of_heap hq
            have hfin : ∀ v, RowAt (w7.setCell ⟨b, 0, none⟩ v) w.heap.size a7 c7 qs ∧ Below w.heap.size w (w7.setCell ⟨b, 0, none⟩ v) := by
              intro v
              obtain ⟨z1, z2, z3, z4, z5⟩ := HSIZE.out
              have z6 := hbr.out.size
              exact ⟨(hrow.keep (fun g hg _ => Below.heap_setCell _ _ _ _ (by simp; omega))).base (by omega), (HB.out.trans (HB7.out.mono z4)).setCell (p := ⟨b, 0, none⟩) z5 v⟩
            have HFIN := Lib.hid hfin
            clear hrow hb7 hq hfin
            go_wp2_with fail
            refine bodyPost_ret (v := .tuple #[.agg #[.slice a7 q c7], .int .i64 x]) (by simp [results, Tryz.results17, go_sem, q0]) rfl ?_
            exact ⟨a7, c7, by rw [show q = qs.length from HQ.out], (HFIN.out _).1, (HFIN.out _).2⟩
end Go.Proofs.YtjcimajkjnjdpabGreatDoor
