/- DERIVED. The reference's Get, with and Names, walked. -/
import Derived.Test.YtjcimajkjnjdpaaGreatDoorNamesIt
import Derived.Test.YtjcimajkjnjdpaaGreatDoorTreeGetW
import Derived.Test.YtjcimajkjnjdpaaGreatDoorPathUnderR
namespace Go.Proofs.YtjcimajkjnjdpaaGreatDoor
open Go.RowKit
set_option linter.unusedVariables false
set_option maxRecDepth 100000

set_option maxHeartbeats 4000000 in
theorem rget_any (w : World) (a : Option Addr) (c : Nat) (ps : List Pr) (K : ByteArray) (hr : RdFl w a ps) (hs : Srt ps) (hl : ps.length ≤ 1000000) :
    Calls Tryz.prog 15 #[.agg #[.slice a ps.length c], .string K] w (fun e w' => e = .returned (.tuple #[strV (getT ps K.data.toList).1, .bool (getT ps K.data.toList).2]) ∧ Below w.heap.size w w') := by
  obtain ⟨w1, hw1, hb1, hx1, _, _⟩ := new_cell w (.slice a ps.length c) 26
  obtain ⟨n, hnn⟩ : ∃ n, n = ps.length := ⟨_, rfl⟩
  rw [← hnn] at hw1 hx1 hl ⊢
  have k0 := cell_of_heap hx1 0
  have HR := Lib.hid (hr.below hb1); have HS := Lib.hid hs; have HN := Lib.hid hnn; have HB1 := Lib.hid hb1
  obtain ⟨G, hG⟩ : ∃ G, G = getT ps K.data.toList := ⟨_, rfl⟩
  rw [← hG]
  have HG := Lib.hid hG
  clear hr hs hnn hb1 hx1 hG
  go_enter Tryz.func15, Tryz.ntmps15
  go_wp2_with fail
  clear k0
  go_loopw [11] (fun x wr => ∃ k : Nat, x = .int .i64 k ∧ k ≤ n ∧ Hid (∀ p ∈ ps.take k, p.1 ≠ K.data.toList) ∧ Hid (Below w1.heap.size w1 wr)) (fun x _ => n - (intOf x).toNat)
  case atStart => exact ⟨0, rfl, Nat.zero_le _, (fun p hp => by cases hp), Below.refl _ _⟩
  case round =>
    obtain ⟨k, rfl, hkn, hno, hbr⟩ := hrel
    by_cases hlt : k < n
    · obtain ⟨p, hp⟩ : ∃ p, ps[k]? = some p := ⟨_, List.getElem?_eq_getElem (by rw [← HN.out]; exact hlt)⟩
      obtain ⟨rb, o, rfl, _, hcs⟩ := HR.out.below hbr.out (fun e => by rw [e] at hp; cases hp)
      obtain ⟨p0, p1⟩ := hcs k p hp
      obtain ⟨S1, hS1⟩ : ∃ S : ByteArray, S = ⟨p.1.toArray⟩ := ⟨_, rfl⟩
      obtain ⟨S2, hS2⟩ : ∃ S : ByteArray, S = ⟨p.2.toArray⟩ := ⟨_, rfl⟩
      obtain ⟨R, hR⟩ : ∃ R, R = decide (p.1 = K.data.toList) := ⟨_, rfl⟩
      have he : (S1.toList == K.toList) = R := by rw [eq_bytes, hS1, hR]
      unfold strV at p0 p1
      rw [← hS1] at p0; rw [← hS2] at p1
      obtain ⟨w7, hw7, hb7, hfx, _, _⟩ := new_two wr (.string S1) (.string S2) 41
      have f0 := cell_of_heap hfx 0
      have f1 := cell_of_heap hfx 1
      have HB7 := Lib.hid (hbr.out.trans (hb7.mono hbr.out.size))
      cases R
      · have hne : p.1 ≠ K.data.toList := by simpa using hR.symm
        have HNO := Lib.hid (show ∀ q ∈ ps.take (k + 1), q.1 ≠ K.data.toList from fun q hq => by
          rw [List.take_add_one, hp] at hq
          rcases List.mem_append.1 hq with hq | hq
          · exact hno.out q hq
          · simp at hq; subst hq; exact hne)
        clear hcs hfx hp hS1 hS2 hb7 hne hR
        go_wp2_with fail
        go_roundw
        case rel => exact ⟨k + 1, by go_num, hlt, HNO, HB7⟩
        case measure => simp [intOf]; omega
      · have hye : p.1 = K.data.toList := by simpa using hR.symm
        have hGE : G = (p.2, true) := by
          rw [HG.out, ← hye]
          exact getT_in HS.out.nodup (List.mem_of_getElem? hp)
        have HS2 := Lib.hid hS2
        clear hcs hfx hp hS1 hS2 hb7 hye hR
        subst hGE
        go_wp2_with fail
        go_ret2
        exact ⟨by dsimp only; rw [show S2 = _ from HS2.out]; rfl, HB1.out.trans (HB7.out.mono HB1.out.size)⟩
    · have hno2 := hno.out
      rw [List.take_of_length_le (by rw [← HN.out]; omega)] at hno2
      have hGE : G = ([], false) := by
        rw [HG.out]
        exact getT_out fun v hv => hno2 _ hv rfl
      subst hGE
      clear hno2
      go_wp2_with fail
      go_ret2
      exact ⟨rfl, HB1.out.trans (hbr.out.mono HB1.out.size)⟩
def StrsTo (ls : List (List UInt8)) (w : World) (e : Ending) (w' : World) : Prop := ∃ a c, e = .returned (.slice a ls.length c) ∧ RdStrs w' a ls ∧ Below w.heap.size w w'
theorem filtS_next {P : List UInt8 → Bool} {t : List (List UInt8)} {k : Nat} {f : List UInt8} (h : t[k]? = some f) : (t.take (k + 1)).filter P = (t.take k).filter P ++ (if P f = true then [f] else []) := by
  rw [List.take_add_one, h, List.filter_append]
  cases hb : P f <;> simp [hb]
theorem less_rev (a b : List UInt8) : Op.bytesLess b a = !(Op.bytesLess a b || decide (a = b)) := by
  cases h1 : Op.bytesLess a b
  · cases h2 : Op.bytesLess b a
    · rw [less_total _ _ h1 h2]; simp
    · have := (less_ne h2).symm
      simp [this]
  · rw [less_asymm _ _ h1]; rfl
set_option maxHeartbeats 16000000 in
theorem rwith_any (w : World) (a : Option Addr) (c : Nat) (ls : List (List UInt8)) (S : ByteArray) (hr : RdStrs w a ls) (hl : ls.length ≤ 1000) :
    Calls Tryz.prog 40 #[.slice a ls.length c, .string S] w (StrsTo (withT ls S.data.toList) w) := by
  obtain ⟨n, hnn⟩ : ∃ n, n = ls.length := ⟨_, rfl⟩
  rw [← hnn] at hl ⊢
  obtain ⟨i9, hi, hz0, hz1, hz2⟩ := info_three infoStr
  have HI := Lib.hid (And.intro hi (And.intro hz0 (And.intro hz1 hz2)))
  have HR := Lib.hid hr; have HN := Lib.hid hnn
  clear hr hnn hi hz0 hz1 hz2
  go_enter Tryz.func40, Tryz.ntmps40
  go_wp2_with fail
  go_loopw [5, 12] (fun y x wr => ∃ (k q : Nat) (a8 : Option Addr) (c8 : Nat), y = .slice a8 q c8 ∧ x = .int .i64 k ∧ k ≤ n ∧ q ≤ k ∧ Hid (q = ((ls.take k).filter fun x => Op.bytesLess x S.data.toList).length) ∧ Hid (wr.ownsRow w.heap.size 9 1 (.slice a8 q c8) q (strsV ((ls.take k).filter fun x => Op.bytesLess x S.data.toList))) ∧ Hid (Below w.heap.size w wr)) (fun _ x _ => n - (intOf x).toNat)
  case atStart => exact ⟨0, 0, none, 0, rfl, rfl, Nat.zero_le _, Nat.le_refl _, rfl, World.ownsRow_nil _ _ _ _, Below.refl _ _⟩
  case round =>
    obtain ⟨k, q, a8, c8, rfl, rfl, hkn, hqk, hq, hown, hbr⟩ := hrel
    by_cases hlt : k < n
    · obtain ⟨x, hx⟩ : ∃ x, ls[k]? = some x := ⟨_, List.getElem?_eq_getElem (by rw [← HN.out]; exact hlt)⟩
      obtain ⟨rb, o, rfl, hcs⟩ := HR.out.below hbr.out (fun e => by rw [e] at hx; cases hx)
      have x0 := hcs k x hx
      obtain ⟨X, hX⟩ : ∃ X : ByteArray, X = ⟨x.toArray⟩ := ⟨_, rfl⟩
      obtain ⟨R, hR⟩ : ∃ R, R = Op.bytesLess x S.data.toList := ⟨_, rfl⟩
      have hle : Op.bytesLess X.toList S.toList = R := by rw [Lib.toList_data, Lib.toList_data, hX, hR]
      have hnx := filtS_next (P := fun x => Op.bytesLess x S.data.toList) hx
      rw [← hR] at hnx
      rw [← hX] at x0
      have HX := Lib.hid hX
      clear hcs hx hX hR
      cases R
      · rw [if_neg (by simp), List.append_nil] at hnx
        have HNX := Lib.hid hnx
        clear hnx
        go_wp2_with fail
        go_roundw
        case rel => exact ⟨k + 1, q, a8, c8, rfl, by go_num, hlt, by omega, by rw [HNX.out]; exact hq.out, by rw [HNX.out]; exact hown.out, hbr⟩
        case measure => simp [intOf]; omega
      · rw [if_pos rfl] at hnx
        have HNX := Lib.hid hnx
        have HSRC := Lib.hid (st_src (heap_alloc_new wr (.cells #[.string X] 9)) rfl)
        have HO9 := Lib.hid (ownsRow_keep hown.out (w' := wr.alloc (.cells #[.string X] 9)) (fun g hg => Below.heap_alloc wr _ g (owns_lt hown.out g hg)))
        have HZ9 := Lib.hid (show w.heap.size ≤ (wr.alloc (.cells #[.string X] 9)).heap.size from by have := hbr.out.size; simp; omega)
        clear hnx
        go_wp2_with (first | (at_builtin; refine wpList_append_srcs rfl (.tmp 19) (.tmp 21) 34 34 rfl w.heap.size 9 i9 _ 1 16 Tryz.underlying34 HI.out.1 HI.out.2.1 HI.out.2.2.1 HI.out.2.2.2 rfl (by decide) _ rfl q _ HO9.out _ rfl _ _ HSRC.out (by unfold maxLen; omega) (by omega) HZ9.out ?_; intro a' c' wX hown9 hgrow _ hblk; have HNEXT := Lib.hid hown9; have HGROW := Lib.hid hgrow; clear hown9 hgrow hblk) | fail)
        go_roundw
        case rel => exact ⟨k + 1, q + 1, a', c', rfl, by go_num, hlt, by omega, by rw [HNX.out, List.length_append, ← hq.out]; rfl, by rw [HNX.out, strsV_snoc, show strV x = .string X by rw [HX.out]; rfl]; exact HNEXT.out, below_grown (hbr.out.alloc hbr.out.size _) HGROW.out (fun g hg => owns_ge HO9.out g hg)⟩
        case measure => simp [intOf]; omega
    · obtain rfl : k = n := by omega
      have ho := hown.out
      have hq2 := hq.out
      rw [List.take_of_length_le (by rw [← HN.out]; exact Nat.le_refl _)] at ho hq2
      obtain ⟨fs, hfs⟩ : ∃ fs, fs = ls.filter fun x => Op.bytesLess x S.data.toList := ⟨_, rfl⟩
      rw [← hfs] at ho hq2
      have HQ := Lib.hid hq2; have HFS := Lib.hid hfs
      have HSRC := Lib.hid (st_src (heap_alloc_new wr (.cells #[.string S] 9)) rfl)
      have HO9 := Lib.hid (ownsRow_keep ho (w' := wr.alloc (.cells #[.string S] 9)) (fun g hg => Below.heap_alloc wr _ g (owns_lt ho g hg)))
      have HZ9 := Lib.hid (show w.heap.size ≤ (wr.alloc (.cells #[.string S] 9)).heap.size from by have := hbr.out.size; simp; omega)
      have hSV : strV S.data.toList = .string S := by unfold strV; cases S; simp
      have HSV := Lib.hid hSV
      clear ho hq2 hfs hown hq hSV
      go_wp2_with (first | (at_builtin; refine wpList_append_srcs rfl (.tmp 24) (.tmp 26) 34 34 rfl w.heap.size 9 i9 _ 1 16 Tryz.underlying34 HI.out.1 HI.out.2.1 HI.out.2.2.1 HI.out.2.2.2 rfl (by decide) _ rfl q _ HO9.out _ rfl _ _ HSRC.out (by unfold maxLen; omega) (by omega) HZ9.out ?_; intro a' c' wX hown9 hgrow _ hblk; have HNEXT := Lib.hid hown9; have HGROW := Lib.hid hgrow; clear hown9 hgrow hblk) | fail)
      have HBX := Lib.hid (below_grown (hbr.out.alloc hbr.out.size (.cells #[.string S] 9)) HGROW.out (fun g hg => owns_ge HO9.out g hg))
      have HOX := Lib.hid (show wX.ownsRow w.heap.size 9 1 (.slice a' (q + 1) c') (q + 1) (strsV (fs ++ [S.data.toList])) by rw [strsV_snoc, HSV.out]; exact HNEXT.out)
      go_loopw [5, 30] (fun y x wr => ∃ (j q2 : Nat) (a8 : Option Addr) (c8 : Nat), y = .slice a8 q2 c8 ∧ x = .int .i64 j ∧ j ≤ k ∧ q2 ≤ 2001 ∧ Hid (q2 = ((fs ++ [S.data.toList]) ++ (ls.take j).filter fun x => Op.bytesLess S.data.toList x).length) ∧ Hid (wr.ownsRow w.heap.size 9 1 (.slice a8 q2 c8) q2 (strsV ((fs ++ [S.data.toList]) ++ (ls.take j).filter fun x => Op.bytesLess S.data.toList x))) ∧ Hid (Below w.heap.size w wr)) (fun _ x _ => k - (intOf x).toNat)
      case atStart => exact ⟨0, q + 1, a', c', rfl, rfl, Nat.zero_le _, by omega, by show q + 1 = _; rw [HQ.out]; simp, by rw [List.take_zero, List.filter_nil, List.append_nil]; exact HOX.out, HBX⟩
      case round =>
        obtain ⟨j, q2, a9, c9, rfl, rfl, hjk, hq2k, hq2, hown, hbr2⟩ := hrel
        by_cases hlt2 : j < k
        · obtain ⟨x, hx⟩ : ∃ x, ls[j]? = some x := ⟨_, List.getElem?_eq_getElem (by rw [← HN.out]; exact hlt2)⟩
          obtain ⟨rb, o, rfl, hcs⟩ := HR.out.below hbr2.out (fun e => by rw [e] at hx; cases hx)
          have x0 := hcs j x hx
          obtain ⟨X, hX⟩ : ∃ X : ByteArray, X = ⟨x.toArray⟩ := ⟨_, rfl⟩
          obtain ⟨R1, hR1⟩ : ∃ R, R = Op.bytesLess x S.data.toList := ⟨_, rfl⟩
          obtain ⟨R2, hR2⟩ : ∃ R, R = decide (x = S.data.toList) := ⟨_, rfl⟩
          have hle : Op.bytesLess X.toList S.toList = R1 := by rw [Lib.toList_data, Lib.toList_data, hX, hR1]
          have heq : (X.toList == S.toList) = R2 := by rw [eq_bytes, hX, hR2]
          have hnx := filtS_next (P := fun x => Op.bytesLess S.data.toList x) hx
          rw [less_rev x, ← hR1, ← hR2] at hnx
          have hq3 : q2 ≤ 2000 := by
            have h1 := hq2.out
            have h2 := List.length_filter_le (fun x => Op.bytesLess S.data.toList x) (ls.take j)
            have h3 := HFS.out
            have h4 := List.length_filter_le (fun x => Op.bytesLess x S.data.toList) ls
            rw [← h3] at h4
            rw [List.length_append, List.length_append, List.length_singleton] at h1
            rw [List.length_take] at h2
            have := HN.out
            omega
          rw [← hX] at x0
          have HX := Lib.hid hX
          clear hcs hx hX hR1 hR2
          obtain ⟨V, hV⟩ : ∃ V, V = (!(R1 || R2)) := ⟨_, rfl⟩
          rw [← hV] at hnx
          have hV2 : (R1 || R2) = !V := by rw [hV]; simp
          cases V
          · rw [if_neg (by simp), List.append_nil] at hnx
            have HNX := Lib.hid hnx
            have hV3 : (R1 || R2) = true := by rw [hV2]; rfl
            clear hnx hV hV2
            cases R1
            · cases R2
              · cases hV3
              · clear hV3
                go_wp2_with fail
                go_roundw
                case rel => exact ⟨j + 1, q2, a9, c9, rfl, by go_num, hlt2, by omega, by rw [HNX.out]; exact hq2.out, by rw [HNX.out]; exact hown.out, hbr2⟩
                case measure => simp [intOf]; omega
            · clear hV3
              go_wp2_with fail
              go_roundw
              case rel => exact ⟨j + 1, q2, a9, c9, rfl, by go_num, hlt2, by omega, by rw [HNX.out]; exact hq2.out, by rw [HNX.out]; exact hown.out, hbr2⟩
              case measure => simp [intOf]; omega
          · rw [if_pos rfl] at hnx
            have HNX := Lib.hid (show (fs ++ [S.data.toList]) ++ (ls.take (j + 1)).filter (fun x => Op.bytesLess S.data.toList x) = ((fs ++ [S.data.toList]) ++ (ls.take j).filter (fun x => Op.bytesLess S.data.toList x)) ++ [x] by rw [hnx]; simp)
            obtain ⟨rfl, rfl⟩ : R1 = false ∧ R2 = false := by cases R1 <;> cases R2 <;> first | exact ⟨rfl, rfl⟩ | cases hV
            have HSRC := Lib.hid (st_src (heap_alloc_new wr (.cells #[.string X] 9)) rfl)
            have HO9 := Lib.hid (ownsRow_keep hown.out (w' := wr.alloc (.cells #[.string X] 9)) (fun g hg => Below.heap_alloc wr _ g (owns_lt hown.out g hg)))
            have HZ9 := Lib.hid (show w.heap.size ≤ (wr.alloc (.cells #[.string X] 9)).heap.size from by have := hbr2.out.size; simp; omega)
            clear hnx hV hV2
            go_wp2_with (first | (at_builtin; refine wpList_append_srcs rfl (.tmp 37) (.tmp 39) 34 34 rfl w.heap.size 9 i9 _ 1 16 Tryz.underlying34 HI.out.1 HI.out.2.1 HI.out.2.2.1 HI.out.2.2.2 rfl (by decide) _ rfl q2 _ HO9.out _ rfl _ _ HSRC.out (by unfold maxLen; omega) (by omega) HZ9.out ?_; intro a' c' wX hown9 hgrow _ hblk; have HNEXT := Lib.hid hown9; have HGROW := Lib.hid hgrow; clear hown9 hgrow hblk) | fail)
            go_roundw
            case rel => exact ⟨j + 1, q2 + 1, a', c', rfl, by go_num, hlt2, by omega, by rw [HNX.out, List.length_append, ← hq2.out]; rfl, by rw [HNX.out, strsV_snoc, show strV x = .string X by rw [HX.out]; rfl]; exact HNEXT.out, below_grown (hbr2.out.alloc hbr2.out.size _) HGROW.out (fun g hg => owns_ge HO9.out g hg)⟩
            case measure => simp [intOf]; omega
        · obtain rfl : j = k := by omega
          have ho := hown.out
          have hq3 := hq2.out
          rw [List.take_of_length_le (by rw [← HN.out]; exact Nat.le_refl _)] at ho hq3
          have hw : (fs ++ [S.data.toList]) ++ ls.filter (fun x => Op.bytesLess S.data.toList x) = withT ls S.data.toList := by unfold withT; rw [HFS.out]; simp
          rw [hw] at ho hq3
          have HO := Lib.hid ho; have HQ3 := Lib.hid hq3
          clear ho hq3 hw hown hq2
          go_wp2_with fail
          go_ret
          exact ⟨a9, c9, show Ending.returned (.slice a9 q2 c9) = _ by rw [HQ3.out], RdStrs.of_owns HO.out, hbr2.out⟩
theorem rawN_le (d : List UInt8) (t : List Pr) : (rawN d t).length ≤ t.length := List.length_filterMap_le _ _
set_option maxHeartbeats 8000000 in
theorem rnames_any (w : World) (a : Option Addr) (c : Nat) (t : List Pr) (D : ByteArray) (hr : RdFl w a t) (hl : t.length ≤ 200) (ht : ∀ p ∈ t, p.1.length ≤ 400000) (hD : D.size ≤ 400000) :
    Calls Tryz.prog 16 #[.agg #[.slice a t.length c], .string D] w (StrsTo (namesT t D.data.toList) w) := by
  obtain ⟨w1, hw1, hb1, hx1, _, _⟩ := new_cell w (.slice a t.length c) 26
  obtain ⟨m, hm⟩ : ∃ m, m = t.length := ⟨_, rfl⟩
  rw [← hm] at hw1 hx1 hl ⊢
  have k0 := cell_of_heap hx1 0
  have HR := Lib.hid (hr.below hb1); have HM := Lib.hid hm; have HB1 := Lib.hid hb1; have HT := Lib.hid ht
  clear hr hm hb1 hx1 ht
  go_enter Tryz.func16, Tryz.ntmps16
  go_wp2_with fail
  clear k0
  go_loopw [5, 15] (fun y x wr => ∃ (k q : Nat) (a8 : Option Addr) (c8 : Nat), y = .slice a8 q c8 ∧ x = .int .i64 k ∧ k ≤ m ∧ Hid (q = (allT (rawN D.data.toList (t.take k))).length) ∧ Hid (RdStrs wr a8 (allT (rawN D.data.toList (t.take k)))) ∧ Hid (Below w1.heap.size w1 wr)) (fun _ x _ => m - (intOf x).toNat)
  case atStart => exact ⟨0, 0, none, 0, rfl, rfl, Nat.zero_le _, rfl, (fun h => absurd rfl h), Below.refl _ _⟩
  case round =>
    obtain ⟨k, q, a8, c8, rfl, rfl, hkm, hq, hrd, hbr⟩ := hrel
    by_cases hlt : k < m
    · obtain ⟨p, hp⟩ : ∃ p, t[k]? = some p := ⟨_, List.getElem?_eq_getElem (by rw [← HM.out]; exact hlt)⟩
      obtain ⟨rb, o, rfl, _, hcs⟩ := HR.out.below hbr.out (fun e => by rw [e] at hp; cases hp)
      obtain ⟨p0, p1⟩ := hcs k p hp
      obtain ⟨S1, hS1⟩ : ∃ S : ByteArray, S = ⟨p.1.toArray⟩ := ⟨_, rfl⟩
      obtain ⟨S2, hS2⟩ : ∃ S : ByteArray, S = ⟨p.2.toArray⟩ := ⟨_, rfl⟩
      have hpl := HT.out p (List.mem_of_getElem? hp)
      have hS1z : S1.size ≤ 400000 := by rw [hS1, str_size]; exact hpl
      have hU := fun V => runder_any D S1 V hD hS1z
      rw [show S1.data.toList = p.1 by rw [hS1]] at hU
      unfold strV at p0 p1
      rw [← hS1] at p0; rw [← hS2] at p1
      obtain ⟨w7, hw7, hb7, hfx, _, _⟩ := new_two wr (.string S1) (.string S2) 41
      have f0 := cell_of_heap hfx 0
      have HB7 := Lib.hid (hbr.out.trans (hb7.mono hbr.out.size))
      have HRD7 := Lib.hid (hrd.out.below hb7)
      have hnx := rawN_next (d := D.data.toList) hp
      have hul := under_short D.data.toList p.1
      clear hcs hfx hp hS1 hS2 hS1z hb7
      cases hu : underP D.data.toList p.1 with
      | mk u1 u2 =>
      rw [hu] at hU hul
      dsimp only at hU hul
      unfold strV at hU
      obtain ⟨P, hP⟩ : ∃ P : ByteArray, P = ⟨u1.toArray⟩ := ⟨_, rfl⟩
      have hPz : P.size ≤ 400000 := by rw [hP, str_size]; omega
      have hPd : P.data.toList = u1 := by rw [hP]
      rw [← hP] at hU
      unfold nmF at hnx
      rw [hu] at hnx
      dsimp only at hnx
      have HU := Lib.hid hU
      clear hU hP hu
      cases u2
      · rw [if_neg (by simp)] at hnx
        have HNX := Lib.hid (show rawN D.data.toList (t.take (k + 1)) = rawN D.data.toList (t.take k) by rw [hnx]; simp)
        clear hnx
        go_wp2_with fail
        refine (HU.out w7).mono ?_
        rintro e w8 ⟨rfl, h8⟩
        have HB8 := Lib.hid (HB7.out.trans (h8.mono HB7.out.size))
        have HRD8 := Lib.hid (HRD7.out.below h8)
        clear h8 f0
        go_wp2_with fail
        go_roundw
        case rel => exact ⟨k + 1, q, a8, c8, rfl, by go_num, hlt, by rw [HNX.out]; exact hq.out, by rw [HNX.out]; exact HRD8.out, HB8⟩
        case measure => simp [intOf]; omega
      · rw [if_pos rfl] at hnx
        have HNX := Lib.hid (show allT (rawN D.data.toList (t.take (k + 1))) = withT (allT (rawN D.data.toList (t.take k))) (nameOf u1) by rw [hnx]; exact allT_snoc _ _)
        have hpc := fun V => rpieces_any P V (by omega)
        rw [hPd] at hpc
        have hne := pieces_ne u1
        obtain ⟨ps, hps⟩ : ∃ ps, ps = pieces u1 := ⟨_, rfl⟩
        rw [← hps] at hpc hne
        obtain ⟨np, hnp⟩ : ∃ n, n = ps.length := ⟨_, rfl⟩
        unfold SplitTo at hpc
        rw [← hnp] at hpc
        have hpos : 0 < np := by rw [hnp]; exact List.length_pos_iff.2 hne
        have hHl := head_le u1
        have hmb : moreB u1 = decide (1 < np) := by unfold moreB; rw [← hps, hnp]
        have hh : ps[0]? = some (headT u1) := by
          unfold headT
          rw [← hps]
          cases ps with
          | nil => exact absurd rfl hne
          | cons x r => rfl
        have hql : (allT (rawN D.data.toList (t.take k))).length ≤ 200 := by
          have h1 := allT_le (rawN D.data.toList (t.take k))
          have h2 := rawN_le D.data.toList (t.take k)
          rw [List.length_take] at h2
          omega
        have HPC := Lib.hid hpc; have HMB := Lib.hid hmb; have HH := Lib.hid hh; have HQL := Lib.hid hql
        clear hnx hpc hps hnp hmb hh hql hne
        go_wp2_with fail
        refine (HU.out w7).mono ?_
        rintro e w8 ⟨rfl, h8⟩
        have HB8 := Lib.hid (HB7.out.trans (h8.mono HB7.out.size))
        have HRD8 := Lib.hid (HRD7.out.below h8)
        clear h8 f0
        go_wp2_with fail
        refine (HPC.out w8).mono ?_
        rintro e w9 ⟨a9, c9, rfl, hrp, h9⟩
        have HB9 := Lib.hid (HB8.out.trans (h9.mono HB8.out.size))
        have HRD9 := Lib.hid (HRD8.out.below h9)
        obtain ⟨tb, tq, rfl, hcp⟩ := hrp (fun e => by have := HH.out; rw [e] at this; cases this)
        have t0 := hcp 0 _ HH.out
        obtain ⟨H, hH⟩ : ∃ H : ByteArray, H = ⟨(headT u1).toArray⟩ := ⟨_, rfl⟩
        rw [← hH, Nat.add_zero] at t0
        have hHz : H.size ≤ 400000 := by rw [hH, str_size]; omega
        obtain ⟨NM, hNM⟩ : ∃ NM : ByteArray, NM = ⟨(nameOf u1).toArray⟩ := ⟨_, rfl⟩
        have hno : nameOf u1 = headT u1 ++ (if 1 < np then [47] else []) := by
          unfold nameOf
          rw [HMB.out]
          simp
        have hW := rwith_any w9 a8 c8 (allT (rawN D.data.toList (t.take k))) NM HRD9.out (by have := HQL.out; omega)
        rw [show NM.data.toList = nameOf u1 by rw [hNM], ← HNX.out, ← hq.out] at hW
        have HW := Lib.hid hW
        clear hcp hrp h9 hW
        by_cases h1n : 1 < np
        · have h1i : (1 : Int) < (np : Int) := by omega
          have hHN : H ++ ⟨#[47]⟩ = NM := by rw [hH, hNM, hno, if_pos h1n, ← str_append]
          have hsum : ¬ 140737488355328 < H.size + 1 := by omega
          clear hH hNM hno
          go_wp2_with fail
          refine HW.out.mono ?_
          rintro e wX ⟨a', c', rfl, hrx, hbx⟩
          have HBX := Lib.hid (HB9.out.trans (hbx.mono HB9.out.size)); have HRX := Lib.hid hrx
          clear hrx hbx t0
          go_wp2_with fail
          go_roundw
          case rel => exact ⟨k + 1, _, a', c', rfl, by go_num, hlt, rfl, HRX, HBX⟩
          case measure => simp [intOf]; omega
        · have h1i : ¬ (1 : Int) < (np : Int) := by omega
          have hHN : H = NM := by rw [hH, hNM, hno, if_neg h1n]; simp
          subst hHN
          clear hH hNM hno
          go_wp2_with fail
          refine HW.out.mono ?_
          rintro e wX ⟨a', c', rfl, hrx, hbx⟩
          have HBX := Lib.hid (HB9.out.trans (hbx.mono HB9.out.size)); have HRX := Lib.hid hrx
          clear hrx hbx t0
          go_wp2_with fail
          go_roundw
          case rel => exact ⟨k + 1, _, a', c', rfl, by go_num, hlt, rfl, HRX, HBX⟩
          case measure => simp [intOf]; omega
    · obtain rfl : k = m := by omega
      have hq2 := hq.out
      have hr2 := hrd.out
      rw [List.take_of_length_le (by rw [← HM.out]; exact Nat.le_refl _)] at hq2 hr2
      have HQ := Lib.hid hq2; have HR2 := Lib.hid hr2
      clear hq2 hr2 hq hrd
      go_wp2_with fail
      go_ret
      exact ⟨a8, c8, show Ending.returned (.slice a8 q c8) = _ by rw [HQ.out]; rfl, HR2.out, HB1.out.trans (hbr.out.mono HB1.out.size)⟩
end Go.Proofs.YtjcimajkjnjdpaaGreatDoor
