/- DERIVED. The reference's take. -/
import Derived.Test.YtjcimajkjnjdpabGreatDoorSexpText
namespace Go.Proofs.YtjcimajkjnjdpabGreatDoor
open Go.RowKit
set_option linter.unusedVariables false

def TakeTo (w : World) (S : ByteArray) (d : Nat) : Except Int (T × List UInt8) → Ending → World → Prop
  | .ok (t, r), e, w' => ∃ l sx a n c G, e = .returned (.tuple #[.agg #[.bool l, .string sx, .slice a n c], .int .i64 ((S.size - r.length : Nat) : Int), .int .i64 0]) ∧ Below w.heap.size w w' ∧ Made w w' d G t (.bool l) (.string sx) (.slice a n c)
  | .error f, e, w' => e = .returned (.tuple #[.agg #[.bool false, .string ⟨#[]⟩, .slice none 0 0], .int .i64 0, .int .i64 f]) ∧ Below w.heap.size w w'
/-- The local list's own block, behind an append to its row. -/
theorem nb_keep {w1 w4 w6 : World} {nb d : Nat} {ts : List T} {v : Value} {G : Foot} {xs : List Value} {x : Array Value} {t : TypeId} {o : Obj} (h : KSt w1 nb d ts v G xs w4) (hW : nb < w1.heap.size) (hn : w4.heap[nb]? = some (.cells x t (0, 0))) (hg : (w4.alloc o).grownBy w6 v.ownBlock) : w6.heap[nb]? = some (.cells x t (0, 0)) := by
  have hs := h.ch.size
  have h1 : w6.heap[nb]? = (w4.alloc o).heap[nb]? := hg.block nb (by simp; omega) (fun e => by have := h.row nb e.symm; omega)
  rw [h1, ((Below.refl _ w4).alloc (Nat.le_refl _) o).block nb (lt_of_heap hn)]
  exact hn
set_option maxRecDepth 100000 in
set_option maxHeartbeats 4000000 in
theorem take_any : ∀ (m d : Nat), d + m = 32 → ∀ (w : World) (S : ByteArray), S.size ≤ 65536 → Calls Tryz.prog 54 #[.string S, .int .i64 d] w (TakeTo w S d (takeT m S.data.toList)) := by
  intro m
  induction m using Nat.strongRecOn with
  | _ m ih =>
    intro d hdm w S hS
    have hb1 : Below w.heap.size w (w.alloc (.cells #[.bool false, .string ⟨#[]⟩, .slice none 0 0] 50)) := (Below.refl _ w).alloc (Nat.le_refl _) _
    have hbx := heap_alloc_new w (.cells #[.bool false, .string ⟨#[]⟩, .slice none 0 0] 50)
    have hz : (w.alloc (.cells #[.bool false, .string ⟨#[]⟩, .slice none 0 0] 50)).heap.size = w.heap.size + 1 := by simp
    obtain ⟨w1, hw1⟩ : ∃ w1, w.alloc (.cells #[.bool false, .string ⟨#[]⟩, .slice none 0 0] 50) = w1 := ⟨_, rfl⟩
    rw [hw1] at hb1 hbx hz
    obtain ⟨b, hbe⟩ : ∃ b, w.heap.size = b := ⟨_, rfl⟩
    rw [hbe] at hbx hz
    have b0 := cell_of_heap hbx 0
    have b1 := cell_of_heap hbx 1
    have b2 := cell_of_heap hbx 2
    have bf := frozen_of_heap hbx
    obtain ⟨sl, hsl⟩ : ∃ sl, sl = S.data.toList := ⟨_, rfl⟩
    have hSl : S.size = sl.length := by rw [hsl]; simp
    have hget : ∀ (i : Nat) (h : i < S.size), ∃ c, sl[i]? = some c ∧ S[i] = c ∧ sl.drop i = c :: sl.drop (i + 1) := by
      intro i h
      have hi : i < sl.length := by rw [← hSl]; exact h
      refine ⟨sl[i], List.getElem?_eq_getElem hi, ?_, List.drop_eq_getElem_cons hi⟩
      subst hsl; rfl
    have hemp : S.toList = sl := by rw [Lib.toList_data, hsl]
    rw [← hsl]
    obtain ⟨R, hR⟩ : ∃ R, R = takeT m sl := ⟨_, rfl⟩
    rw [← hR]
    have hbad : ∀ W' (f : Int) v0 v1 v2, Below w.heap.size w W' → R = .error f → TakeTo w S d R (.returned (.tuple #[.agg #[.bool false, .string ⟨#[]⟩, .slice none 0 0], .int .i64 0, .int .i64 f])) (((W'.setCell ⟨b, 0, none⟩ v0).setCell ⟨b, 1, none⟩ v1).setCell ⟨b, 2, none⟩ v2) := by
      intro W' f v0 v1 v2 hb he
      rw [he]
      exact ⟨rfl, ((hb.setCell (by simp; omega) _).setCell (by simp; omega) _).setCell (by simp; omega) _⟩
    have HBAD := Lib.hid hbad; have HGET := Lib.hid hget; have HSL := Lib.hid hSl; have HSLE := Lib.hid hsl; have HB1 := Lib.hid hb1; have HIH := Lib.hid ih; have HBX := Lib.hid hbx; have HZ := Lib.hid hz
    clear hbad hget hSl hsl hb1 ih hbx hz
    by_cases h0 : S.size = 0
    · have hsle : sl = [] := List.eq_nil_of_length_eq_zero (by rw [← HSL.out]; exact h0)
      have he : S.toList.isEmpty = true := by rw [hemp, hsle]; rfl
      have HRE := Lib.hid (show R = .error 5 from by rw [hR, hsle]; cases m <;> rfl)
      clear hR h0 hemp hsle
      go_enter Tryz.func54, Tryz.ntmps54
      go_wp2_with fail
      refine bodyPost_ret (v := .tuple #[.agg #[.bool false, .string ⟨#[]⟩, .slice none 0 0], .int .i64 0, .int .i64 5]) (by simp [results, Tryz.results54, go_sem, b0, b1, b2]) rfl ?_
      exact HBAD.out _ _ _ _ _ HB1.out HRE.out
    · have h0l : 0 < S.size := by omega
      obtain ⟨c, hc, hcc, hdr⟩ := HGET.out 0 h0l
      rw [List.drop_zero] at hdr
      have he : S.toList.isEmpty = false := by rw [hemp, hdr]; rfl
      obtain ⟨z, hz⟩ : ∃ z : Int, z = ((S[0]'h0l).toNat : Int) := ⟨_, rfl⟩
      have hz2 := hz.symm
      have hzc : z = (c.toNat : Int) := by rw [hz, hcc]
      clear h0 hemp
      by_cases h40 : c = 40
      · have hz40 : (z != 40) = false := by rw [hzc, h40]; rfl
        have hz41 : (z == 40) = true := by rw [hzc, h40]; rfl
        rw [hdr, h40] at hR
        clear hz hcc hzc hc hdr h40
        cases m with
        | zero =>
          have HRE := Lib.hid (show R = .error 4 from hR)
          have hd32 : d = 32 := by omega
          have hd32b : ((d : Int) == 32) = true := by rw [hd32]; rfl
          clear hR hdm hd32
          go_enter Tryz.func54, Tryz.ntmps54
          go_wp2_with fail
          refine bodyPost_ret (v := .tuple #[.agg #[.bool false, .string ⟨#[]⟩, .slice none 0 0], .int .i64 0, .int .i64 4]) (by simp [results, Tryz.results54, go_sem, b0, b1, b2]) rfl ?_
          exact HBAD.out _ _ _ _ _ HB1.out HRE.out
        | succ m =>
          have hd32 : d < 32 := by omega
          have hd32b : ((d : Int) == 32) = false := by simp; omega
          have hdm' : (d + 1) + m = 32 := by omega
          have HIH2 := Lib.hid (HIH.out m (by omega) (d + 1) hdm')
          obtain ⟨Rk, hRk⟩ : ∃ Rk, Rk = takesT (takeT m) (sl.drop 1).length (sl.drop 1) := ⟨_, rfl⟩
          have HRR := Lib.hid (show R = boxT Rk from by rw [hR, hRk]; exact takeT_list m _)
          have HRK := Lib.hid hRk
          obtain ⟨iN, hiN, hz0, hz1, hz2'⟩ := info_parts nodeInfo
          -- n's own block
          have hnx := heap_alloc_new w1 (.cells #[.bool false, .string ⟨#[]⟩, .slice none 0 0] 50)
          have hb2 : Below w1.heap.size w1 (w1.alloc (.cells #[.bool false, .string ⟨#[]⟩, .slice none 0 0] 50)) := (Below.refl _ w1).alloc (Nat.le_refl _) _
          obtain ⟨w2, hw2⟩ : ∃ w2, w1.alloc (.cells #[.bool false, .string ⟨#[]⟩, .slice none 0 0] 50) = w2 := ⟨_, rfl⟩
          rw [hw2] at hnx hb2
          obtain ⟨nb, hnb⟩ : ∃ nb, w1.heap.size = nb := ⟨_, rfl⟩
          rw [hnb] at hnx
          have hne1 : ¬ (nb = b) := by have := HZ.out; omega
          have hne2 : ¬ (b = nb) := by omega
          have HNB : Hid (nb < w2.heap.size) := Lib.hid (lt_of_heap hnx)
          have hbx2 : w2.heap[b]? = some (.cells #[.bool false, .string ⟨#[]⟩, .slice none 0 0] 50 (0, 0)) := by rw [hb2.block b (by have := HZ.out; omega)]; exact HBX.out
          have hbox : ∀ W', Ch [nb] w2 W' → W'.heap[b]? = some (.cells #[.bool false, .string ⟨#[]⟩, .slice none 0 0] 50 (0, 0)) := by
            intro W' hc
            rw [hc.block b (lt_of_heap hbx2) (by simp; exact hne2)]; exact hbx2
          have hb02 := HB1.out.trans (hb2.mono HB1.out.size)
          have hbel : ∀ W', Ch [nb] w2 W' → Below w.heap.size w W' := fun W' hc => hb02.trans (below_of_ch hc (by intro k hk; rw [show k = nb from by simpa using hk]; have := HZ.out; omega) hb02.size)
          have HBOX := Lib.hid hbox; have HBEL := Lib.hid hbel; have HNX := Lib.hid hnx; have HB02 := Lib.hid hb02
          have HW2 := Lib.hid hw2
          clear hR hRk HIH hdm hnx hb2 hbx2 hbox hbel hb02 b0 b1 b2 bf hw2
          go_enter Tryz.func54, Tryz.ntmps54
          go_wp2_with fail
          go_loopg [8] (S.size - 1) (fun g y wr => ∃ (p : Nat) (ts : List T) (G : Foot) (xs : List Value) (x : Value), p ≤ S.size ∧ S.size ≤ g + p ∧ ts.length + 1 ≤ p ∧ y = .int .i64 p ∧ Hid (wr.heap[nb]? = some (.cells #[.bool false, .string ⟨#[]⟩, x] 50 (0, 0))) ∧ Hid (KSt w2 nb d ts x G xs wr) ∧ Hid (Rk = joinT ts (takesT (takeT m) g (sl.drop p))))
          case atStart =>
            refine ⟨1, [], fun _ _ _ => False, [], .slice none 0 0, h0l, by omega, by simp, rfl, ?_, ?_, ?_⟩
            · rw [HW2.out]; exact HNX.out
            · rw [HW2.out]; exact KSt.start w2 nb d
            · show Rk = _
              rw [HRK.out, List.length_drop, ← HSL.out]
              cases takesT (takeT m) (S.size - 1) (sl.drop 1) with
              | error e => rfl
              | ok q => rfl
          case round =>
            obtain ⟨p, ts, G, xs, x, hp, hg, htl, rfl, hnb', hks, hrk⟩ := hrel
            obtain ⟨av, cv, rfl⟩ := owns_form hks.out.own
            have k0 := cell_of_heap hnb'.out 0
            have k1 := cell_of_heap hnb'.out 1
            have k2 := cell_of_heap hnb'.out 2
            have kf := frozen_of_heap hnb'.out
            have hbq := HBOX.out wr hks.out.ch
            have q0 := cell_of_heap hbq 0
            have q1 := cell_of_heap hbq 1
            have q2 := cell_of_heap hbq 2
            have qf := frozen_of_heap hbq
            clear hbq hz2 he hz40 hz41
            by_cases hpe : p = S.size
            · have hpd : ((p : Int) == (S.size : Int)) = true := by simp [hpe]
              have hpl : decide (p < S.size) = false := by simp; omega
              have hRe : R = .error 5 := by
                have h1 := hrk.out
                rw [List.drop_of_length_le (by rw [← HSL.out]; omega)] at h1
                rw [HRR.out, h1]
                cases gk <;> rfl
              have HRE := Lib.hid hRe
              clear hRe hpe
              go_wp2_with fail
              refine bodyPost_ret (v := .tuple #[.agg #[.bool false, .string ⟨#[]⟩, .slice none 0 0], .int .i64 0, .int .i64 5]) (by simp [results, Tryz.results54, go_sem, q0, q1, q2]) rfl ?_
              exact HBAD.out _ _ _ _ _ (HBEL.out wr hks.out.ch) HRE.out
            · have hpd : ((p : Int) == (S.size : Int)) = false := by simp; omega
              have hpl : p < S.size := by omega
              obtain ⟨c, hc, hcc, hdr⟩ := HGET.out p hpl
              obtain ⟨z, hz⟩ : ∃ z : Int, z = ((S[p]'hpl).toNat : Int) := ⟨_, rfl⟩
              have hz2 := hz.symm
              have hzc : z = (c.toNat : Int) := by rw [hz, hcc]
              obtain ⟨g', hg'⟩ : ∃ g', gk = g' + 1 := ⟨gk - 1, by omega⟩
              by_cases h41 : c = 41
              · have hz41 : (z != 41) = false := by rw [hzc, h41]; rfl
                have hRe : R = .ok (.mk false [] ts, sl.drop (p + 1)) := by
                  have h1 := hrk.out
                  rw [hdr, h41, hg'] at h1
                  rw [HRR.out, h1]
                  simp [takesT, joinT, boxT]
                have HRE := Lib.hid hRe
                have hfin : ∀ v0 v1 v2, TakeTo w S d R (.returned (.tuple #[.agg #[.bool false, .string ⟨#[]⟩, .slice av ts.length cv], .int .i64 ((p + 1 : Nat) : Int), .int .i64 0])) (((wr.setCell ⟨b, 0, none⟩ v0).setCell ⟨b, 1, none⟩ v1).setCell ⟨b, 2, none⟩ v2) := by
                  intro v0 v1 v2
                  rw [HRE.out]
                  obtain ⟨G', hm⟩ := hks.out.made (w := w2) (Nat.le_refl _) hd32 (by omega)
                  have hs1 := HZ.out
                  have hs2 := HB02.out.size
                  have hsn := HNB.out
                  refine ⟨_, _, _, _, _, G', ?_, (((HBEL.out wr hks.out.ch).setCell (by simp; omega) _).setCell (by simp; omega) _).setCell (by simp; omega) _, (hm.keep (fun g hg _ => ?_) (by simp [World.setCell])).base hs2⟩
                  · rw [show S.size - (sl.drop (p + 1)).length = p + 1 from by rw [List.length_drop]; have := HSL.out; omega]
                  · rw [Below.heap_setCell _ _ _ _ (by simp; omega), Below.heap_setCell _ _ _ _ (by simp; omega), Below.heap_setCell _ _ _ _ (by simp; omega)]
                have HFIN := Lib.hid hfin
                clear hfin hRe hpe hz hcc hzc hc hdr h41 hg'
                go_wp2_with fail
                rw [show ((p : Int) + 1) = ((p + 1 : Nat) : Int) from by omega]
                refine bodyPost_ret (v := .tuple #[.agg #[.bool false, .string ⟨#[]⟩, .slice av ts.length cv], .int .i64 ((p + 1 : Nat) : Int), .int .i64 0]) (by simp [results, Tryz.results54, go_sem, q0, q1, q2]) rfl ?_
                exact HFIN.out _ _ _
              · have hz41 : (z != 41) = true := by simp; rw [hzc]; intro h; apply h41; apply UInt8.toNat.inj; simp; omega
                have hI : Calls Tryz.prog 54 #[.string (S.extract p S.size), .int .i64 ((d : Int) + 1)] wr (TakeTo wr (S.extract p S.size) (d + 1) (takeT m (sl.drop p))) := by
                  have h := HIH2.out wr (S.extract p S.size) (by rw [ByteArray.size_extract]; omega)
                  rw [show ((d + 1 : Nat) : Int) = (d : Int) + 1 from by omega] at h
                  have e : (S.extract p S.size).data.toList = sl.drop p := by
                    rw [ByteArray.data_extract, Array.toList_extract, List.extract_eq_take_drop, ← HSLE.out, List.take_of_length_le (by rw [List.length_drop]; have := HSL.out; omega)]
                  rw [e] at h; exact h
                have hSs : (S.extract p S.size).size = S.size - p := by rw [ByteArray.size_extract]; omega
                cases hX : takeT m (sl.drop p) with
                | error f =>
                  have hf := takeT_errs _ _ _ hX
                  have hRe : R = .error f := by
                    have h1 := hrk.out
                    rw [hdr] at hX
                    rw [hdr, hg', joinT_err h41 hX] at h1
                    rw [HRR.out, h1]; rfl
                  have HRE := Lib.hid hRe
                  have hf1 : (f != 0) = true := by rcases hf with rfl | rfl <;> decide
                  rw [hX] at hI
                  have HI := Lib.hid hI
                  clear hI hSs hRe hpe hz hcc hzc hc hdr h41 hg' hX hf
                  go_wp2_with fail
                  refine HI.out.mono ?_
                  rintro e w3 ⟨rfl, hb3⟩
                  have hb4 : Below w3.heap.size w3 (w3.alloc (.cells #[.bool false, .string ⟨#[]⟩, .slice none 0 0] 50)) := (Below.refl _ w3).alloc (Nat.le_refl _) _
                  have HB4 := Lib.hid ((HBEL.out wr hks.out.ch).trans ((hb3.trans (hb4.mono hb3.size)).mono (HBEL.out wr hks.out.ch).size))
                  have hbq : (w3.alloc (.cells #[.bool false, .string ⟨#[]⟩, .slice none 0 0] 50)).heap[b]? = _ := ((hb3.trans (hb4.mono hb3.size)).block b (lt_of_heap (HBOX.out wr hks.out.ch))).trans (HBOX.out wr hks.out.ch)
                  replace q0 := cell_of_heap hbq 0
                  replace q1 := cell_of_heap hbq 1
                  replace q2 := cell_of_heap hbq 2
                  replace qf := frozen_of_heap hbq
                  clear hb3 hb4 hbq k0 k1 k2 kf
                  go_wp2_with fail
                  refine bodyPost_ret (v := .tuple #[.agg #[.bool false, .string ⟨#[]⟩, .slice none 0 0], .int .i64 0, .int .i64 f]) (by simp [results, Tryz.results54, go_sem, q0, q1, q2]) rfl ?_
                  exact HBAD.out _ _ _ _ _ HB4.out HRE.out
                | ok q =>
                  obtain ⟨t, r'⟩ := q
                  obtain ⟨k, hk1, hk2, hk3⟩ := takeT_len hdm' hX
                  have hrk2 : Rk = joinT (ts ++ [t]) (takesT (takeT m) g' r') := by
                    have h1 := hrk.out
                    rw [hdr] at hX
                    rw [hdr, hg', joinT_step h41 hX] at h1
                    exact h1
                  rw [List.length_drop, ← HSL.out] at hk2
                  rw [List.drop_drop] at hk3
                  rw [hk3] at hrk2
                  rw [hX] at hI
                  have hI2 : Calls Tryz.prog 54 #[.string (S.extract p S.size), .int .i64 ((d : Int) + 1)] wr (fun e w3 => ∃ l sx a n c G2, e = .returned (.tuple #[.agg #[.bool l, .string sx, .slice a n c], .int .i64 (k : Int), .int .i64 0]) ∧ Below wr.heap.size wr w3 ∧ Made wr w3 (d + 1) G2 t (.bool l) (.string sx) (.slice a n c)) := by
                    refine hI.mono ?_
                    rintro e w3 ⟨l, sx, a, n, c, G2, rfl, h2, h3⟩
                    exact ⟨l, sx, a, n, c, G2, by rw [hSs, show S.size - p - r'.length = k from by omega], h2, h3⟩
                  have HI := Lib.hid hI2; have HRK2 := Lib.hid hrk2
                  have hp2 : p + k ≤ S.size := by omega
                  have hg3 : S.size ≤ g' + (p + k) := by omega
                  have HGK := Lib.hid hg'
                  have hk65 : k ≤ 65536 := by omega
                  clear hI hI2 hrk2 hSs hpe hz hcc hzc hc hdr h41 hX hk2 hk3 hg' hg
                  go_wp2_with fail
                  refine HI.out.mono ?_
                  rintro e w3 ⟨l, sx, a, n, c', G2, rfl, hb3, hmd⟩
                  have hb4 : Below w3.heap.size w3 (w3.alloc (.cells #[.bool l, .string sx, .slice a n c'] 50)) := (Below.refl _ w3).alloc (Nat.le_refl _) _
                  have hkx := heap_alloc_new w3 (.cells #[.bool l, .string sx, .slice a n c'] 50)
                  obtain ⟨w4, hw4⟩ : ∃ w4, w3.alloc (.cells #[.bool l, .string sx, .slice a n c'] 50) = w4 := ⟨_, rfl⟩
                  rw [hw4] at hb4 hkx
                  have m0 := cell_of_heap hkx 0
                  have m1 := cell_of_heap hkx 1
                  have m2 := cell_of_heap hkx 2
                  have hb34 := hb3.trans (hb4.mono hb3.size)
                  have hnb4 : w4.heap[nb]? = some (.cells #[.bool false, .string ⟨#[]⟩, .slice av ts.length cv] 50 (0, 0)) := (hb34.block nb (lt_of_heap hnb'.out)).trans hnb'.out
                  replace k0 := cell_of_heap hnb4 0
                  replace k1 := cell_of_heap hnb4 1
                  replace k2 := cell_of_heap hnb4 2
                  replace kf := frozen_of_heap hnb4
                  have HB3 := Lib.hid hb3; have HB4 := Lib.hid hb4; have HMD := Lib.hid hmd; have HN4 := Lib.hid hnb4
                  have HK4 := Lib.hid (hks.out.keep HNB.out (Ch.of_below hb34 [nb]))
                  clear hb3 hb4 hmd hnb4 hkx hb34 q0 q1 q2 qf
                  go_wp2_with (first | (at_builtin; refine wpList_append_srcs rfl (.tmp 52) (.tmp 54) 48 48 rfl 0 50 iN (.agg #[.bool false, .string ⟨#[]⟩, .slice none 0 0]) 3 48 Tryz.underlying48 hiN hz0 hz1 hz2' rfl (by decide) _ rfl _ _ (HK4.out.own.alloc _) _ rfl _ _ (node_src w4 (.bool l) (.string sx) (.slice a n c') 0 rfl rfl rfl) (by unfold maxLen; omega) (by omega) (Nat.zero_le _) ?_; intro a' c2' w6 hown hgrow _ hblk; have HKS := Lib.hid (hks.out.step HNB.out (Ch.of_below HB3.out [nb]) HMD.out (HB4.out.alloc HB4.out.size _) hown hgrow hblk); have HN6 := Lib.hid (nb_keep HK4.out HNB.out HN4.out hgrow); have r0 := cell_of_heap HN6.out 0; have r1 := cell_of_heap HN6.out 1; have r2 := cell_of_heap HN6.out 2; have rf := frozen_of_heap HN6.out; clear hown hgrow hblk) | fail)
                  go_roundg g'
                  case measure => have := HGK.out; omega
                  case rel =>
                    refine ⟨p + k, ts ++ [t], _, _, _, hp2, hg3, by simp; omega, by go_num, ?_, HKS.out.keep HNB.out ((Ch.refl [nb] w6).setCell (.inl (by simp)) _), HRK2.out⟩
                    exact heap_setCell_here (i := 2) _ HN6.out
      · have hz40 : (z != 40) = true := by simp; rw [hzc]; intro h; apply h40; apply UInt8.toNat.inj; simp; omega
        have hz41 : (z == 40) = false := by simpa using hz40
        rw [hdr, takeT_text _ _ _ h40, ← hdr] at hR
        have hT := text_any w1 S hS h0l
        rw [← HSLE.out] at hT
        have hT2 : Calls Tryz.prog 74 #[.string S] w1 (fun e w' => ∃ l sx k f, e = .returned (.tuple #[.agg #[.bool l, .string sx, .slice none 0 0], .int .i64 k, .int .i64 f]) ∧ w'.heap[b]? = some (.cells #[.bool false, .string ⟨#[]⟩, .slice none 0 0] 50 (0, 0)) ∧ ∀ v0 v1 v2, TakeTo w S d R (.returned (.tuple #[.agg #[.bool l, .string sx, .slice none 0 0], .int .i64 k, .int .i64 f])) (((w'.setCell ⟨b, 0, none⟩ v0).setCell ⟨b, 1, none⟩ v1).setCell ⟨b, 2, none⟩ v2)) := by
          refine hT.mono ?_
          intro e w' h
          have hbl : ∀ w', Below w1.heap.size w1 w' → ∀ v0 v1 v2, w'.heap[b]? = some (.cells #[.bool false, .string ⟨#[]⟩, .slice none 0 0] 50 (0, 0)) ∧ Below w.heap.size w (((w'.setCell ⟨b, 0, none⟩ v0).setCell ⟨b, 1, none⟩ v1).setCell ⟨b, 2, none⟩ v2) := by
            intro w' hb v0 v1 v2
            exact ⟨by rw [hb.block b (by have := HZ.out; omega)]; exact HBX.out, (((HB1.out.trans (hb.mono HB1.out.size)).setCell (by simp; omega) _).setCell (by simp; omega) _).setCell (by simp; omega) _⟩
          cases hX : textT sl with
          | error f =>
            rw [hX] at h hR
            obtain ⟨rfl, hb⟩ := h
            refine ⟨_, _, _, _, rfl, (hbl w' hb undef undef undef).1, fun v0 v1 v2 => ?_⟩
            rw [hR]
            exact ⟨rfl, (hbl w' hb v0 v1 v2).2⟩
          | ok q =>
            obtain ⟨t, r⟩ := q
            rw [hX] at h hR
            obtain ⟨⟨X, hX1, rfl⟩, hb⟩ := h
            obtain ⟨a, rfl, hs⟩ := textT_inv hX
            refine ⟨_, _, _, _, rfl, (hbl w' hb undef undef undef).1, fun v0 v1 v2 => ?_⟩
            rw [hR]
            refine ⟨_, _, _, _, _, fun _ _ _ => False, rfl, (hbl w' hb v0 v1 v2).2, fun _ _ _ h => h.elim, fun _ _ _ h => h.elim, ?_⟩
            unfold NodeG
            have := atomB_len a
            have hl := HSL.out
            rw [hs, List.length_append] at hl
            exact ⟨rfl, hX1.symm, by omega, Nat.zero_le _, .inl ⟨rfl, rfl⟩⟩
        have HT := Lib.hid hT2
        clear hT hT2 hR hz hcc hzc hc hdr h40
        go_enter Tryz.func54, Tryz.ntmps54
        go_wp2_with fail
        refine HT.out.mono ?_
        rintro e w2 ⟨l, sx, k, f, rfl, hbq, hfin⟩
        have q0 := cell_of_heap hbq 0
        have q1 := cell_of_heap hbq 1
        have q2 := cell_of_heap hbq 2
        have qf := frozen_of_heap hbq
        have HFIN := Lib.hid hfin
        clear hfin hbq b0 b1 b2 bf
        go_wp2_with fail
        refine bodyPost_ret (v := .tuple #[.agg #[.bool l, .string sx, .slice none 0 0], .int .i64 k, .int .i64 f]) (by simp [results, Tryz.results54, go_sem, q0, q1, q2]) rfl ?_
        exact HFIN.out _ _ _
end Go.Proofs.YtjcimajkjnjdpabGreatDoor
