/- DERIVED. The reference's Outside, walked. -/
import Derived.Test.YtknokfhmkhdieaaDoorViewOut
import Derived.Test.YtknokfhmkhdieaaDoorPathJoinsV
namespace Go.Proofs.YtknokfhmkhdieaaDoor
open Go.RowKit
set_option linter.unusedVariables false

def StrsTo (ls : List (List UInt8)) (w : World) (e : Ending) (w' : World) : Prop := ∃ a c, e = .returned (.slice a ls.length c) ∧ RdStrs w' a ls ∧ Below w.heap.size w w' ∧ (a = none → c = 0)
theorem infoStr : (Tryd.prog.info? 9).map (fun i => (i.zero, i.size, i.bytes)) = some (some (.string ByteArray.empty), 1, 16) := by kernel_rfl
theorem strsV_snoc (ls : List (List UInt8)) (x : List UInt8) : strsV (ls ++ [x]) = strsV ls ++ [strV x] := by simp [strsV]
theorem owns_none {w : World} {base n c m k : Nat} {a : Option Addr} {e : TypeId} {xs : List Value} (h : w.ownsRow base e m (.slice a n c) k xs) (ha : a = none) : c = 0 := by
  rcases h.2 with ⟨e1, _⟩ | ⟨g, cap, cur, e1, _⟩
  · exact (Value.slice.inj e1).2.2
  · subst ha; cases (Value.slice.inj e1).1
set_option maxRecDepth 100000 in
set_option maxHeartbeats 8000000 in
theorem routside_any (w : World) (a a' : Option Addr) (c c' : Nat) (t : List Pr) (ds : List (List UInt8)) (hr : RdFl w a t) (hd : RdStrs w a' ds) (hl : t.length ≤ 1000000) (hdl : ds.length ≤ 1000000) (ht : ∀ p ∈ t, p.1.length ≤ 400000) (hds : ∀ p ∈ ds, p.length ≤ 400000) :
    Calls Tryd.prog 14 #[.agg #[.slice a t.length c], .slice a' ds.length c'] w (StrsTo (outP ds t) w) := by
  obtain ⟨w1, hw1, hb1, hx1, hz1, hz2⟩ := new_cell w (.slice a t.length c) 27
  obtain ⟨m, hm⟩ : ∃ m, m = t.length := ⟨_, rfl⟩
  obtain ⟨n, hn⟩ : ∃ n, n = ds.length := ⟨_, rfl⟩
  rw [← hm] at hw1 hx1 ⊢
  rw [← hn] at hdl ⊢
  have k0 := cell_of_heap hx1 0
  obtain ⟨i0, hi, hzz0, hzz1, hzz2⟩ := info_three infoStr
  have HI := Lib.hid (And.intro hi (And.intro hzz0 (And.intro hzz1 hzz2)))
  have HR := Lib.hid (hr.below hb1); have HD := Lib.hid (hd.below hb1); have HM := Lib.hid hm; have HN := Lib.hid hn; have HT := Lib.hid ht; have HDS := Lib.hid hds; have HB1 := Lib.hid hb1
  have hml : m ≤ 1000000 := by omega
  clear hr hd hm hn ht hds hb1 hx1 hz1 hz2 hl hi hzz0 hzz1 hzz2
  go_enter Tryd.func14, Tryd.ntmps14
  go_wp2_with fail
  clear k0
  go_loopw [5, 16] (fun y x wr => ∃ (k q : Nat) (a5 : Option Addr) (c5 : Nat), x = .int .i64 k ∧ y = .slice a5 q c5 ∧ k ≤ m ∧ q ≤ k ∧ Hid (q = (outP ds (t.take k)).length) ∧ Hid (wr.ownsRow w1.heap.size 9 1 (.slice a5 q c5) q (strsV (outP ds (t.take k)))) ∧ Hid (Below w1.heap.size w1 wr)) (fun _ x _ => m - (intOf x).toNat)
  case atStart => exact ⟨0, 0, none, 0, rfl, rfl, Nat.zero_le _, Nat.le_refl _, rfl, World.ownsRow_nil _ _ _ _, Below.refl _ _⟩
  case round =>
    obtain ⟨k, q, a5, c5, rfl, rfl, hkm, hqk, hq, hown, hbw⟩ := hrel
    by_cases hlt : k < m
    · obtain ⟨p, hp⟩ : ∃ p, t[k]? = some p := ⟨_, List.getElem?_eq_getElem (by rw [← HM.out]; exact hlt)⟩
      obtain ⟨rb, o, rfl, _, hcs⟩ := HR.out.below hbw.out (fun e => by rw [e] at hp; cases hp)
      obtain ⟨p0, p1⟩ := hcs k p hp
      obtain ⟨S1, hS1⟩ : ∃ S : ByteArray, S = ⟨p.1.toArray⟩ := ⟨_, rfl⟩
      obtain ⟨S2, hS2⟩ : ∃ S : ByteArray, S = ⟨p.2.toArray⟩ := ⟨_, rfl⟩
      have hS1z : S1.size ≤ 400000 := by rw [hS1, str_size]; exact HT.out p (List.mem_of_getElem? hp)
      unfold strV at p0 p1
      rw [← hS1] at p0; rw [← hS2] at p1
      obtain ⟨w6, hw6, hb6, hfx, hz7, hz8⟩ := new_two wr (.string S1) (.string S2) 47
      obtain ⟨BF, hbf⟩ : ∃ b, wr.heap.size = b := ⟨_, rfl⟩
      rw [hbf] at hfx
      have HFX := Lib.hid hfx; have HP := Lib.hid hp; have HS1 := Lib.hid hS1
      have HO6 := Lib.hid (ownsRow_keep hown.out (w' := w6) (fun x hx => hb6.block x (owns_lt hown.out x hx)))
      have HB6 := Lib.hid (hbw.out.trans (hb6.mono hbw.out.size))
      clear hcs hp hS1 hS2 hfx hb6 hz7 hz8 hown hbw
      go_wp2_with fail
      clear p0 p1
      go_loopw [8, 22] (fun y x wv => ∃ j : Nat, x = .int .i64 j ∧ y = .bool (inB (ds.take j) p.1) ∧ j ≤ n ∧ Hid (Below w6.heap.size w6 wv)) (fun _ x _ => n - (intOf x).toNat)
      case atStart => exact ⟨0, rfl, rfl, Nat.zero_le _, Below.refl _ _⟩
      case round =>
        obtain ⟨j, rfl, rfl, hjn, hbv⟩ := hrel
        obtain ⟨b0, hb0⟩ : ∃ b, b = inB (ds.take j) p.1 := ⟨_, rfl⟩
        rw [← hb0]
        have HB0 := Lib.hid hb0
        clear hb0
        by_cases hlt2 : j < n
        · obtain ⟨d, hd⟩ : ∃ p, ds[j]? = some p := ⟨_, List.getElem?_eq_getElem (by rw [← HN.out]; exact hlt2)⟩
          obtain ⟨tb, tq, rfl, hcd⟩ := (HD.out.below (HB6.out.trans (hbv.out.mono HB6.out.size))) (fun e => by rw [e] at hd; cases hd)
          have d0 := hcd j d hd
          obtain ⟨D, hD⟩ : ∃ S : ByteArray, S = ⟨d.toArray⟩ := ⟨_, rfl⟩
          have hDz : D.size ≤ 400000 := by rw [hD, str_size]; exact HDS.out d (List.mem_of_getElem? hd)
          rw [← hD] at d0
          have hU := fun W => runder_any D S1 W hDz hS1z
          rw [show D.data.toList = d by rw [hD], show S1.data.toList = p.1 by rw [HS1.out]] at hU
          obtain ⟨u, hu⟩ : ∃ u, u = underP d p.1 := ⟨_, rfl⟩
          rw [← hu] at hU
          obtain ⟨u1, u2⟩ := u
          dsimp only at hU
          unfold strV at hU
          obtain ⟨U, hU1⟩ : ∃ U : ByteArray, U = ⟨u1.toArray⟩ := ⟨_, rfl⟩
          rw [← hU1] at hU
          have f0 := cell_of_heap ((hbv.out.block _ (lt_of_heap HFX.out)).trans HFX.out) 0
          have HU := Lib.hid hU
          have HN2 := Lib.hid (show inB (ds.take (j + 1)) p.1 = (b0 || u2) by
            unfold inB
            rw [List.take_add_one, hd, List.any_append, HB0.out]
            show (_ || ([d].any _)) = _
            rw [List.any_cons, ← hu]
            simp [inB])
          clear hcd hd hD hU hu hU1
          cases b0 <;> cases u2
          all_goals
            go_wp2_with fail
            refine (HU.out wr).mono ?_
            rintro e w8 ⟨rfl, h8⟩
            have HB8 := Lib.hid (hbv.out.trans (h8.mono hbv.out.size))
            clear h8 
            go_wp2_with fail
            go_roundw
            case rel => exact ⟨j + 1, by go_num, by rw [HN2.out]; rfl, hlt2, HB8⟩
            case measure => simp [intOf]; omega
        · have hfull : inB ds p.1 = b0 := by
            rw [HB0.out, List.take_of_length_le (by rw [← HN.out]; omega)]
          have hnx := outP_next (dirs := ds) HP.out
          rw [hfull] at hnx
          have HBV := Lib.hid (HB6.out.trans (hbv.out.mono HB6.out.size))
          cases b0
          · rw [if_pos rfl] at hnx
            have HNX := Lib.hid hnx
            obtain ⟨w8, hw8⟩ : ∃ W, W = wr := ⟨_, rfl⟩
            rw [← hw8] at hbv HBV ⊢
            have f0 := cell_of_heap ((hbv.out.block _ (lt_of_heap HFX.out)).trans HFX.out) 0
            have HO8 := Lib.hid (ownsRow_keep HO6.out (w' := w8.alloc (.cells #[.string S1] 9)) (fun x hx => (Below.heap_alloc w8 _ x (by have := owns_lt HO6.out x hx; have := hbv.out.size; omega)).trans (hbv.out.block x (owns_lt HO6.out x hx))))
            have hsrc := one_src w8 p.1 9
            rw [show strV p.1 = .string S1 by rw [HS1.out]; rfl] at hsrc
            have HSR := Lib.hid hsrc
            have HZ8 := Lib.hid (show w1.heap.size ≤ (w8.alloc (.cells #[.string S1] 9)).heap.size from by have := HBV.out.size; simp; omega)
            clear hnx hfull hsrc hw8
            go_wp2_with (first | (at_builtin; refine wpList_append_srcs rfl (.tmp 40) (.tmp 43) 34 34 rfl w1.heap.size 9 i0 _ 1 16 Tryd.underlying34 HI.out.1 HI.out.2.1 HI.out.2.2.1 HI.out.2.2.2 rfl (by decide) _ rfl q _ HO8.out _ rfl _ _ HSR.out (by unfold maxLen; omega) (by omega) HZ8.out ?_; intro a' c' w9 hown9 hgrow _ hblk; have HNEXT := Lib.hid hown9; have HGROW := Lib.hid hgrow; clear hown9 hgrow hblk) | fail)
            go_roundw
            case rel => exact ⟨k + 1, q + 1, a', c', by go_num, rfl, hlt, by omega, by rw [HNX.out, List.length_append, ← hq.out]; rfl, by rw [HNX.out, strsV_snoc, show strV p.1 = .string S1 by rw [HS1.out]; rfl]; exact HNEXT.out, grow_below (n := 0) HBV.out HGROW.out (fun x hx => owns_ge HO8.out x hx)⟩
            case measure => simp [intOf]; omega
          · rw [if_neg (by simp), List.append_nil] at hnx
            have HNX := Lib.hid hnx
            have HO8 := Lib.hid (ownsRow_keep HO6.out (w' := wr) (fun x hx => hbv.out.block x (owns_lt HO6.out x hx)))
            clear hnx hfull
            go_wp2_with fail
            go_roundw
            case rel => exact ⟨k + 1, q, a5, c5, by go_num, rfl, hlt, by omega, by rw [HNX.out]; exact hq.out, by rw [HNX.out]; exact HO8.out, HBV⟩
            case measure => simp [intOf]; omega
    · obtain rfl : k = m := by omega
      have ho := hown.out
      have hq2 := hq.out
      rw [List.take_of_length_le (by rw [← HM.out]; exact Nat.le_refl _)] at ho hq2
      have HO := Lib.hid ho; have HQ := Lib.hid hq2
      clear ho hq2
      go_wp2_with fail
      go_ret
      exact ⟨a5, c5, by rw [← HQ.out]; rfl, RdStrs.of_owns HO.out, HB1.out.trans (hbw.out.mono HB1.out.size), fun e => (owns_none HO.out e)⟩
end Go.Proofs.YtknokfhmkhdieaaDoor
