/- DERIVED. The walk of LogReads. -/
import Derived.Test.YtebeafpoblhlhaaLogAlive
namespace Go.Proofs.Ytebeafpoblhlhaa
open Go.RowKit
set_option linter.unusedVariables false

set_option maxRecDepth 100000 in
set_option maxHeartbeats 4000000 in
theorem reads_any (w : World) (a : Option Addr) (c : Nat) (rs : List (List UInt8)) (hr : RdStrs w a rs) (hm : rs.length ≤ 140737488351232) (hrl : ∀ r ∈ rs, r.length ≤ 140737488351232) (last : List UInt8) (hl : last.length ≤ 140737488351232) (at_ : Int) (more : List UInt8) (hmo : more.length ≤ 140737488351232) :
    Calls Try.prog 7 #[.slice a rs.length c, .string ⟨last.toArray⟩, .int .i64 at_, .string ⟨more.toArray⟩] w fun e w' => e = .returned (.bool true) ∧ Below w.heap.size w w' := by
  have HR := Lib.hid hr; have HRL := Lib.hid hrl; clear hr hrl
  have hs1 : (⟨last.toArray⟩ : ByteArray).size = last.length := str_size last
  have hs2 : (⟨more.toArray⟩ : ByteArray).size = more.length := str_size more
  go_enter Try.func7, Try.ntmps7
  go_wp2_with fail
  refine (logalive_any _).mono ?_
  rintro e w1 ⟨rfl, hb1⟩
  have HB1 := Lib.hid hb1; clear hb1
  go_wp2_with fail
  go_loopw [9, 10, 12, 27] (fun n b s i wr => ∃ (k : Nat) (N : Nat) (A : ByteArray), k ≤ rs.length ∧ i = .int .i64 k ∧ n = .int .i64 N ∧ b = .string A ∧ A.data.toList = frames (rs.take k) ∧ N = last.length + more.length + (frames (rs.take k)).length ∧ (0 < k → N ≤ 65536) ∧ (∀ r ∈ rs.take k, r.length ≤ 65536) ∧ Hid (Below w.heap.size w wr)) (fun _ _ _ i _ => rs.length - (intOf i).toNat)
  case atStart => exact ⟨0, last.length + more.length, ⟨#[]⟩, Nat.zero_le _, rfl, by go_num, rfl, rfl, by simp [frames], fun h => absurd h (Nat.lt_irrefl 0), by simp, HB1.out⟩
  case round =>
    obtain ⟨k, N, A, hk, rfl, rfl, rfl, hA, hN, hN2, hrk, hbl⟩ := hrel
    by_cases hlt : k < rs.length
    · obtain ⟨b, o, rfl, hcell⟩ := (HR.out.below hbl.out) (by intro e; rw [e] at hlt; exact absurd hlt (Nat.not_lt_zero _))
      obtain ⟨l, hl'⟩ : ∃ l, rs[k]? = some l := ⟨_, List.getElem?_eq_getElem hlt⟩
      have h0 := hcell k l hl'
      have hll := HRL.out l (List.mem_of_getElem? hl')
      have hs3 : (⟨l.toArray⟩ : ByteArray).size = l.length := str_size l
      have hft := frames_take rs k l hl'
      have hfl := congrArg List.length hft
      rw [List.length_append, frame_length] at hfl
      have hAs : A.size = (frames (rs.take k)).length := by rw [← hA]; simp
      have hFN : (frames (rs.take k)).length ≤ N := by omega
      have hNb : N ≤ 281474976710656 := by
        rcases Nat.eq_zero_or_pos k with h | h
        · subst h; simp [frames] at hN; omega
        · have := hN2 h; omega
      by_cases hbig : 65536 < N + (3 + l.length)
      · clear hcell hl' hft hfl hrk hN hA hN2
        go_wp2
        go_ret
        exact ⟨rfl, hbl.out⟩
      · have hA2 : (A ++ ⟨(frame l).toArray⟩).data.toList = frames (rs.take (k + 1)) := by
          rw [ByteArray.data_append, Array.toList_append, hA, hft]
        have hfs : (⟨(frame l).toArray⟩ : ByteArray).size = 3 + l.length := by rw [str_size, frame_length]
        have hAs2 : (A ++ ⟨(frame l).toArray⟩).size = A.size + (3 + l.length) := by rw [ByteArray.size_append, hfs]
        have hrk2 : ∀ r ∈ rs.take (k + 1), r.length ≤ 65536 := by
          intro r hr
          rw [List.take_add_one, hl'] at hr
          rcases List.mem_append.1 hr with h | h
          · exact hrk r h
          · obtain rfl : r = l := by simpa using h
            omega
        have hN' : N + (3 + l.length) = last.length + more.length + (frames (rs.take (k + 1))).length := by omega
        obtain ⟨FB, hFB⟩ : ∃ FB : ByteArray, FB = ⟨(frame l).toArray⟩ := ⟨_, rfl⟩
        rw [← hFB] at hA2 hAs2 hfs
        have hAle : A.size ≤ 65536 := by omega
        have HA2 := Lib.hid hA2; have HAS2 := Lib.hid hAs2; have HN := Lib.hid hN'; have HRK := Lib.hid hrk2; have HFB := Lib.hid hFB.symm
        clear hcell hl' hft hfl hrk hN hA hN2 hA2 hAs2 hN' hrk2 hFB hAs hFN hNb
        go_wp2_with fail
        refine (frame_any wr l (by omega)).mono ?_
        rintro e w3 ⟨rfl, hb3⟩
        rw [HFB.out]
        have HB3 := Lib.hid (hbl.out.trans (hb3.mono hbl.out.size)); clear hb3
        go_wp2_with fail
        go_roundw
        case rel => exact ⟨k + 1, N + (3 + l.length), A ++ FB, by omega, by go_num, by go_num, rfl, HA2.out, HN.out, fun _ => by omega, HRK.out, HB3.out⟩
        case measure => simp [intOf]; omega
    · obtain rfl : k = rs.length := by omega
      rw [List.take_length] at hA hN hrk
      have hFr := frames_ge rs
      by_cases hbad : 65536 < N ∨ 60 < rs.length ∨ at_ < 0 ∨ (3 + last.length : Int) ≤ at_
      · have HBL := Lib.hid hbl.out
        clear hA hrk hFr hN2 hlt
        have hNb : N ≤ 281474976710656 ∨ 65536 < N := by omega
        clear hN
        rcases hbad with h | h | h | h
        · go_wp2
          go_ret
          exact ⟨rfl, HBL.out⟩
        · go_wp2
          all_goals (go_ret; exact ⟨rfl, HBL.out⟩)
        · go_wp2
          all_goals (go_ret; exact ⟨rfl, HBL.out⟩)
        · go_wp2
          all_goals (go_ret; exact ⟨rfl, HBL.out⟩)
      · obtain ⟨K, rfl, hK⟩ : ∃ K : Nat, at_ = K ∧ K < 3 + last.length := ⟨at_.toNat, by omega, by omega⟩
        obtain ⟨tail, htail⟩ : ∃ t, t = (frame last).take K := ⟨_, rfl⟩
        have htl : tail.length = K := by rw [htail, List.length_take, frame_length]; omega
        obtain ⟨lD, hlD⟩ : ∃ l, l = frames rs ++ tail := ⟨_, rfl⟩
        have hlDl : lD.length = (frames rs).length + K := by rw [hlD, List.length_append, htl]
        have hAs : A.size = (frames rs).length := by rw [← hA]; simp
        have hAe : A = ⟨(frames rs).toArray⟩ := by rw [← hA]
        obtain ⟨FB, hFB⟩ : ∃ FB : ByteArray, FB = ⟨(frame last).toArray⟩ := ⟨_, rfl⟩
        have hFBs : FB.size = 3 + last.length := by rw [hFB, str_size, frame_length]
        obtain ⟨TB, hTB⟩ : ∃ TB : ByteArray, TB = ⟨tail.toArray⟩ := ⟨_, rfl⟩
        have hTBs : TB.size = K := by rw [hTB, str_size, htl]
        have hEx : FB.extract 0 K = TB := by rw [hFB, str_take, hTB, htail]
        obtain ⟨D, hD⟩ : ∃ D : ByteArray, D = ⟨lD.toArray⟩ := ⟨_, rfl⟩
        have hADT : A ++ TB = D := by rw [hAe, hTB, str_append, hD, hlD]
        have hDs : D.size = lD.length := by rw [hD, str_size]
        have hnew := fun (w : World) v h => own_new w v lD h (by omega)
        rw [show newRib lD = { safe := lD, waits := [], off := false, acts := 0, inn := 0, keep := 0 } from by unfold newRib; rw [List.take_of_length_le (by omega)]] at hnew
        have HNEW := Lib.hid hnew
        have hop := fun (w0 w : World) (B R : Nat) h => open_any (B := B) (w0 := w0) (w := w) (R := R) (s := { safe := lD, waits := [], off := false, acts := 0, inn := 0, keep := 0 }) h rfl rfl (by show (0 : Int) < _; decide) rs tail last (by show lD ++ [] = _; rw [List.append_nil]; exact hlD) (by rw [htl]; exact htail) (by rw [htl]; exact hK) (by omega) (by exact hrk)
          { safe := frames rs, waits := [], off := false, acts := if tail = [] then 0 else 1, inn := 0, keep := 0 } (by
            split
            · rename_i h; rw [hlD, h, List.append_nil]
            · rfl)
        obtain ⟨x, hx⟩ : ∃ x : Int, x = if tail = [] then 0 else 1 := ⟨_, rfl⟩
        have hx2 : x < 2 := by rw [hx]; split <;> decide
        rw [← hx] at hop
        have HOP := Lib.hid hop
        have HFB := Lib.hid hFB.symm; have HEX := Lib.hid hEx; have HADT := Lib.hid hADT; have HD := Lib.hid hD; have HAE := Lib.hid hAe
        have HBL := Lib.hid hbl.out
        have hFl : (frames rs).length ≤ 65536 := by omega
        have hlDb : lD.length ≤ 131075 := by omega
        clear hlDl
        have hms : more.length ≤ 65536 := by omega
        have hfit : (frames rs).length + (3 + more.length) ≤ 1048576 := by omega
        have hlss : last.length ≤ 65536 := by omega
        have h60 : rs.length ≤ 60 := by omega
        obtain ⟨MB, hMB⟩ : ∃ MB : ByteArray, MB = ⟨(frame more).toArray⟩ := ⟨_, rfl⟩
        have hMBs : MB.size = 3 + more.length := by rw [hMB, str_size, frame_length]
        obtain ⟨l8, hl8⟩ : ∃ l8, l8 = frames rs ++ frame more := ⟨_, rfl⟩
        obtain ⟨X, hX⟩ : ∃ X : ByteArray, X = ⟨l8.toArray⟩ := ⟨_, rfl⟩
        have hAMX : A ++ MB = X := by rw [hAe, hMB, str_append, hX, hl8]
        have HL8 := Lib.hid hl8
        have HMB := Lib.hid hMB.symm; have HX := Lib.hid hX.symm; have HAMX := Lib.hid hAMX
        have hAb : A.size ≤ 65536 := by omega
        clear hMB hX hAMX hN hl8
        clear hA hrk hFr hN2 hlt htail htl hlD hFB hTB hD hADT hAe hEx hnew hop hx
        go_wp2_with fail
        refine (frame_any wr last (by omega)).mono ?_
        rintro e w4 ⟨rfl, hb4⟩
        rw [HFB.out]
        obtain ⟨c4, W4, hcs, hrd4, hb5⟩ := conv_bytes w4 lD
        rw [← HD.out] at hcs
        have HB4 := Lib.hid ((HBL.out.trans (hb4.mono HBL.out.size)).trans (hb5.mono (Nat.le_trans HBL.out.size hb4.size)))
        have HRD4 := Lib.hid hrd4
        have hEx := HEX.out; have hADT := HADT.out
        clear hb4 hb5 hrd4
        go_wp2_with fail
        refine (HNEW.out W4 _ HRD4.out).mono ?_
        rintro e w5 ⟨R, rfl, o5⟩
        have O5 := Lib.hid o5; clear o5 hcs hEx hADT
        go_wp2_with fail
        refine (HOP.out W4 w5 _ R O5.out).mono ?_
        rintro e w6 ⟨L, a6, c6, rfl, o6, hr6⟩
        have O6 := Lib.hid o6; have HR6 := Lib.hid hr6
        have hb6 : Below w.heap.size w w6 := by
          obtain ⟨_, _, _, _, h, _⟩ := o6.own
          exact HB4.out.trans (h.mono HB4.out.size)
        have HB6 := Lib.hid hb6; clear o6 hr6 hb6
        go_wp2_with fail
        refine (same_any w6 a6 c6 rs a c rs HR6.out (HR.out.below HB6.out) (by omega) rfl).mono ?_
        rintro e w7 ⟨rfl, hb7⟩
        have O7 := Lib.hid (O6.out.below hb7); clear hb7
        go_wp2_with fail
        refine (append_any O7.out rfl rfl (by show x < _; omega) more hms (by exact hfit) ⟨by omega, by omega⟩).mono ?_
        rintro e w8 ⟨rfl, o8⟩
        have O8 := Lib.hid o8; clear o8
        go_wp2_with fail
        refine (count_any _ L _ O8.out.cell).mono ?_
        rintro e w' ⟨rfl, rfl⟩
        go_wp2_with fail
        refine (own_read_to O8.out.own rfl l8 (by rw [HL8.out]; simp)).mono ?_
        rintro e w9 ⟨a9, c9, rfl, hw9, o9, hb9⟩
        have hb9' : Below w.heap.size w w9 := by
          obtain ⟨_, _, _, _, h, _⟩ := o9
          exact HB4.out.trans (h.mono HB4.out.size)
        have HW9 := Lib.hid (Rd.of_owns hw9); have HB9 := Lib.hid hb9'
        have hcv9 : (convert 22 9 (.slice a9 l8.length c9)).run Try.prog w9.drew = .ok (.string X) w9.drew := by
          rw [← HX.out]; exact conv_at (w := w9.drew) (Rd.of_owns hw9)
        clear hw9 o9 hb9 hb9'
        go_wp2_with fail
        have hfm := frame_any w9.drew more hms
        have HFM := Lib.hid hfm; clear hfm
        have hAMX := HAMX.out
        have hsum : ¬ 9223372036854775807 < A.size + (3 + more.length) := Nat.not_lt.2 (Nat.le_trans (show A.size + (3 + more.length) ≤ 200000 from by omega) (by decide))
        clear HNEW HOP HFB HEX HADT HD HAE HBL HB4 HRD4 O5 O6 HR6 HB6 O7 O8 HR HRL HB1
        clear hs1 hbad hK hl hm hmo hFBs hTBs hDs hlDb hx2 hfit hlss h60 hFl hAs hbl
        go_region_law ((go_simp; go_at_call 27; refine (HFM.out).mono ?_; rintro e w10 ⟨rfl, hb10⟩; rw [HMB.out]; have hcv10 : (convert 22 9 (.slice a9 l8.length c9)).run Try.prog w10 = .ok (.string X) w10 := (by rw [← HX.out]; exact conv_at ((show Rd w9.drew _ _ from HW9.out).below hb10)); have HB10 := Lib.hid hb10; clear hb10))
        all_goals (go_wp2; go_ret; exact ⟨rfl, HB9.out.trans ((show Below w9.heap.size w9 _ from ⟨HB10.out.os, HB10.out.tape, HB10.out.output, HB10.out.size, HB10.out.block⟩).mono HB9.out.size)⟩)
end Go.Proofs.Ytebeafpoblhlhaa
