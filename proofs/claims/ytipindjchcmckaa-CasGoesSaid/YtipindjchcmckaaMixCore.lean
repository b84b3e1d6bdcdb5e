/- DERIVED. The walks of package mix and of its reference, but for Parse. -/
import Derived.Test.YtipindjchcmckaaRows
import Derived.WalkKit
import Derived.WalkSpells
import Derived.WalkLawsBesides
import Derived.Lib.Bytealg
import Derived.Lib.Hide
import Derived.Test.YtipindjchcmckaaMixMath
namespace Go.Proofs.Ytipindjchcmckaa
open Go.RowKit

theorem step_walk (h : BitVec 64) (c : UInt8) :
    IntKind.u64.wrap (bits BinOp.xor IntKind.u64 (bits BinOp.xor IntKind.u64 (bits BinOp.xor IntKind.u64 (bits BinOp.xor IntKind.u64 ↑h.toNat (IntKind.u64.wrap ↑c.toNat)) (IntKind.u64.wrap (bits BinOp.xor IntKind.u64 ↑h.toNat (IntKind.u64.wrap ↑c.toNat) * 8192)))
      (bits BinOp.xor IntKind.u64 (bits BinOp.xor IntKind.u64 ↑h.toNat (IntKind.u64.wrap ↑c.toNat)) (IntKind.u64.wrap (bits BinOp.xor IntKind.u64 ↑h.toNat (IntKind.u64.wrap ↑c.toNat) * 8192)) / 128))
      (IntKind.u64.wrap (bits BinOp.xor IntKind.u64 (bits BinOp.xor IntKind.u64 (bits BinOp.xor IntKind.u64 ↑h.toNat (IntKind.u64.wrap ↑c.toNat)) (IntKind.u64.wrap (bits BinOp.xor IntKind.u64 ↑h.toNat (IntKind.u64.wrap ↑c.toNat) * 8192)))
      (bits BinOp.xor IntKind.u64 (bits BinOp.xor IntKind.u64 ↑h.toNat (IntKind.u64.wrap ↑c.toNat)) (IntKind.u64.wrap (bits BinOp.xor IntKind.u64 ↑h.toNat (IntKind.u64.wrap ↑c.toNat) * 8192)) / 128) * 131072)) + 15111065706836454659) = ((mixStep h c).toNat : Int) := by
  rw [bv_wrap, bv_xor, bv_shl _ 13 8192 (by decide), bv_xor, bv_shr _ 7 128 (by decide), bv_xor, bv_shl _ 17 131072 (by decide), bv_xor, bv_add _ 15111065706836454659 _ (by decide)]
  rfl

set_option maxHeartbeats 400000 in
theorem add_any (h : BitVec 64) (s : ByteArray) (w : World) (hs : s.size ≤ maxLen) :
    Calls Try.prog 33 #[.int .u64 h.toNat, .string s] w fun e w' => e = .returned (.int .u64 (mixAdd h s.data.toList).toNat) ∧ w = w' := by
  unfold maxLen at hs
  go_enter Try.func33, Try.ntmps33
  go_wp2
  go_loop [0, 8] (fun x i => ∃ k : Nat, k ≤ s.size ∧ i = .int .i64 k ∧ x = .int .u64 (mixAdd h (s.data.toList.take k)).toNat) (fun _ i => s.size - (intOf i).toNat)
  case atStart => exact ⟨0, Nat.zero_le _, rfl, rfl⟩
  case round =>
    obtain ⟨k, hk, rfl, rfl⟩ := hrel
    by_cases hlt : k < s.size
    · go_wp2
      go_round
      case rel => exact ⟨k + 1, by omega, by go_num, by rw [step_walk, mixAdd_take _ _ _ hlt]⟩
      case measure => simp [intOf]; omega
    · go_wp2
      go_ret
      exact ⟨by rw [List.take_of_length_le (by simp; omega)]; rfl, rfl⟩

set_option maxHeartbeats 400000 in
theorem start_any (h : BitVec 64) (w : World) :
    Calls Try.prog 34 #[.int .u64 h.toNat] w fun e w' => e = .returned (.int .u64 (mixStart h).toNat) ∧ w = w' := by
  have hx : bits BinOp.xor IntKind.u64 ↑h.toNat 11400714819323198485 = ((mixStart h).toNat : Int) := by
    rw [show (11400714819323198485 : Int) = ((0x9e3779b97f4a7c15#64 : BitVec 64).toNat : Int) from by decide, bv_xor]; rfl
  have hX := Lib.hid hx; clear hx
  go_enter Try.func34, Try.ntmps34
  go_wp2
  go_ret
  exact ⟨by rw [← hX.out]; rfl, rfl⟩
set_option maxHeartbeats 400000 in
theorem of_any (s : ByteArray) (w : World) (hs : s.size ≤ maxLen) :
    Calls Try.prog 25 #[.string s] w fun e w' => e = .returned (.int .u64 (mixOf s.data.toList).toNat) ∧ w = w' := by
  have hsz : (s.size : Int) = ((BitVec.ofNat 64 s.data.toList.length).toNat : Int) := by
    unfold maxLen at hs
    rw [BitVec.toNat_ofNat]
    have : s.data.toList.length = s.size := by simp
    rw [this]; omega
  have HS := Lib.hid hsz; clear hsz
  have hs' := hs
  unfold maxLen at hs
  go_enter Try.func25, Try.ntmps25
  go_wp2_with fail
  rw [HS.out]
  refine (start_any _ _).mono ?_
  rintro e w' ⟨rfl, rfl⟩
  go_wp2_with fail
  refine (add_any _ _ _ hs').mono ?_
  rintro e w' ⟨rfl, rfl⟩
  go_wp2_with fail
  go_ret
  exact ⟨rfl, rfl⟩
set_option maxHeartbeats 400000 in
theorem narrow_any (h : BitVec 64) (n : Int) (w : World) :
    Calls Try.prog 24 #[.int .u64 h.toNat, .int .i64 n] w fun e w' => e = .returned (.int .u64 (mixNarrow h n).toNat) ∧ w = w' := by
  by_cases h1 : 64 ≤ n
  · have e : (mixNarrow h n).toNat = h.toNat := by
      rw [mixNarrow_nat, show narrowBits n = 64 from by unfold narrowBits; omega]
      exact Nat.mod_eq_of_lt h.isLt
    rw [e]; clear e
    go_enter Try.func24, Try.ntmps24
    go_wp2
    go_ret
    exact ⟨rfl, rfl⟩
  · by_cases h2 : 0 ≤ n
    · obtain ⟨k, rfl⟩ : ∃ k : Nat, n = k := ⟨n.toNat, by omega⟩
      have hp : (2 : Nat) ^ k ≤ 2 ^ 63 := Nat.pow_le_pow_right (by decide) (by omega)
      have hq := Nat.two_pow_pos k
      have e : bits BinOp.and IntKind.u64 (↑h.toNat) (IntKind.u64.wrap (IntKind.u64.wrap (2 ^ k) - 1)) = ((mixNarrow h k).toNat : Int) := by
        have e1 : IntKind.u64.wrap (2 ^ k) = ((2 ^ k : Nat) : Int) := by
          rw [IntKind.wrap_u64, show (2 : Int) ^ k = ((2 ^ k : Nat) : Int) from by simp]; omega
        have e2 : IntKind.u64.wrap (((2 ^ k : Nat) : Int) - 1) = ((2 ^ k - 1 : Nat) : Int) := by
          rw [IntKind.wrap_u64]; omega
        rw [e1, e2, and_mask h _ k rfl (by omega), mixNarrow_nat, show narrowBits (k : Int) = k from by unfold narrowBits; omega]
      have E := Lib.hid e; clear e hp hq
      go_enter Try.func24, Try.ntmps24
      go_wp2
      go_ret
      exact ⟨by rw [← E.out]; rfl, rfl⟩
    · have e : bits BinOp.and IntKind.u64 (↑h.toNat) 0 = ((mixNarrow h n).toNat : Int) := by
        have := and_mask h 0 0 (by decide) (by decide)
        simp at this
        rw [this, mixNarrow_nat, show narrowBits n = 0 from by unfold narrowBits; omega]
        simp
      have E := Lib.hid e; clear e
      go_enter Try.func24, Try.ntmps24
      go_wp2
      go_ret
      exact ⟨by rw [← E.out]; rfl, rfl⟩

set_option maxHeartbeats 400000 in
theorem text_any (h : BitVec 64) (w : World) :
    Calls Try.prog 23 #[.int .u64 h.toNat] w fun e w' => e = .returned (.string ⟨(mixText h).toArray⟩) ∧ Below w.heap.size w w' := by
  have hcv : ∀ C : Array Value, C = txtCells h 13 → (convert 65 9 (.slice (some ⟨w.heap.size, 0, none⟩) 13 13)).run Try.prog (w.alloc (.cells C 63)) = .ok (.string ⟨(mixText h).toArray⟩) (w.alloc (.cells C 63)) := by
    intro C hC
    have hl : (mixText h).length = 13 := by simp [mixText]
    have := run_convert_bytes_back (P := Try.prog) (w.alloc (.cells C 63)) 65 9 5 ⟨w.heap.size, 0, none⟩ 13 (mixText h) Try.underlying65 Try.underlying5 Try.underlying9 (by
      intro j hj
      rw [hC, txtCells_all, Addr.add_lit, Nat.zero_add]
      simp [hj])
    rw [hl] at this
    exact this
  have HCV := Lib.hid hcv; clear hcv
  go_enter Try.func23, Try.ntmps23
  go_wp2
  go_loopw [0, 5] (fun x i wr => ∃ k : Nat, k ≤ 13 ∧ i = .int .i64 k ∧ x = .int .u64 (h >>> (5 * k)).toNat ∧ wr = w.alloc (.cells (txtCells h k) 63)) (fun _ i _ => 13 - (intOf i).toNat)
  case atStart => exact ⟨0, by omega, by simp, by simp, rfl⟩
  case round =>
    obtain ⟨k, hk, rfl, rfl, rfl⟩ := hrel
    obtain ⟨x, hx⟩ : ∃ x, x = h >>> (5 * k) := ⟨_, rfl⟩
    obtain ⟨C, hC⟩ : ∃ C, C = txtCells h k := ⟨_, rfl⟩
    have hz : C.size = 13 := by rw [hC]; exact txtCells_size h k
    rw [← hx, ← hC]
    have HX := Lib.hid hx; have HC := Lib.hid hC; clear hx hC
    by_cases hlt : k < 13
    · obtain ⟨m, hm, hm', ha⟩ : ∃ m : Nat, m < 32 ∧ Hid (m = x.toNat % 32) ∧ bits BinOp.and IntKind.u64 (x.toNat : Int) 31 = (m : Int) := ⟨x.toNat % 32, Nat.mod_lt _ (by decide), rfl, and31 x⟩
      obtain ⟨c0, hc0⟩ : ∃ c0, C[12 - k]? = some c0 := ⟨C[12 - k]'(by omega), by rw [Array.getElem?_eq_getElem]⟩
      have hL := letter_get m hm
      have HL := Lib.hid hL; clear hL
      go_wp2
      go_round
      case rel => exact ⟨k + 1, by omega, by go_num, by rw [HX.out, shr5], by rw [HL.out]; rw [hm'.out, HX.out, HC.out]; rfl⟩
      case measure => simp [intOf]; omega
    · obtain rfl : k = 13 := by omega
      have hcv := HCV.out C HC.out
      clear hz
      go_wp2
      go_ret
      exact ⟨rfl, (Below.refl _ _).alloc (Nat.le_refl _) _⟩

set_option maxHeartbeats 400000 in
theorem radd_any (h : BitVec 64) (s : ByteArray) (w : World) (hs : s.size ≤ maxLen) :
    Calls Try.prog 35 #[.int .u64 h.toNat, .string s] w fun e w' => e = .returned (.int .u64 (mixAdd h s.data.toList).toNat) ∧ w = w' := by
  unfold maxLen at hs
  go_enter Try.func35, Try.ntmps35
  go_wp2
  go_loop [0, 5] (fun x i => ∃ k : Nat, k ≤ s.size ∧ i = .int .i64 k ∧ x = .int .u64 (mixAdd h (s.data.toList.take k)).toNat) (fun _ i => s.size - (intOf i).toNat)
  case atStart => exact ⟨0, Nat.zero_le _, rfl, rfl⟩
  case round =>
    obtain ⟨k, hk, rfl, rfl⟩ := hrel
    by_cases hlt : k < s.size
    · go_wp2
      go_round
      case rel => exact ⟨k + 1, by omega, by go_num, by rw [bv_wrap, bv_xor, bv_shl _ 13 8192 (by decide), bv_xor, bv_quo _ 7 128 (by decide), bv_xor, bv_shl _ 17 131072 (by decide), bv_xor, bv_add _ 15111065706836454659 _ (by decide), mixAdd_take _ _ _ hlt]; rfl⟩
      case measure => simp [intOf]; omega
    · go_wp2
      go_ret
      exact ⟨by rw [List.take_of_length_le (by simp; omega)]; rfl, rfl⟩
set_option maxHeartbeats 400000 in
theorem rstart_any (h : BitVec 64) (w : World) :
    Calls Try.prog 36 #[.int .u64 h.toNat] w fun e w' => e = .returned (.int .u64 (mixStart h).toNat) ∧ w = w' := by
  have hx : bits BinOp.xor IntKind.u64 ↑h.toNat 11400714819323198485 = ((mixStart h).toNat : Int) := by
    rw [show (11400714819323198485 : Int) = ((0x9e3779b97f4a7c15#64 : BitVec 64).toNat : Int) from by decide, bv_xor]; rfl
  have hX := Lib.hid hx; clear hx
  go_enter Try.func36, Try.ntmps36
  go_wp2
  go_ret
  exact ⟨by rw [← hX.out]; rfl, rfl⟩
set_option maxHeartbeats 400000 in
theorem rof_any (s : ByteArray) (w : World) (hs : s.size ≤ maxLen) :
    Calls Try.prog 28 #[.string s] w fun e w' => e = .returned (.int .u64 (mixOf s.data.toList).toNat) ∧ w = w' := by
  have hsz : (s.size : Int) = ((BitVec.ofNat 64 s.data.toList.length).toNat : Int) := by
    unfold maxLen at hs
    rw [BitVec.toNat_ofNat]
    have : s.data.toList.length = s.size := by simp
    rw [this]; omega
  have HS := Lib.hid hsz; clear hsz
  have hs' := hs
  unfold maxLen at hs
  go_enter Try.func28, Try.ntmps28
  go_wp2_with fail
  rw [HS.out]
  refine (rstart_any _ _).mono ?_
  rintro e w' ⟨rfl, rfl⟩
  go_wp2_with fail
  refine (radd_any _ _ _ hs').mono ?_
  rintro e w' ⟨rfl, rfl⟩
  go_wp2_with fail
  go_ret
  exact ⟨rfl, rfl⟩
set_option maxHeartbeats 400000 in
theorem rnarrow_any (h : BitVec 64) (n : Int) (w : World) :
    Calls Try.prog 27 #[.int .u64 h.toNat, .int .i64 n] w fun e w' => e = .returned (.int .u64 (mixNarrow h n).toNat) ∧ w = w' := by
  go_enter Try.func27, Try.ntmps27
  go_wp2
  go_loop [0, 5, 6, 7] (fun x o b i => ∃ (k : Nat) (y : BitVec 64) (m p : Nat), k ≤ 64 ∧ ((k : Int) ≤ n ∨ k = 0) ∧ i = .int .i64 k ∧ x = .int .u64 y.toNat ∧ o = .int .u64 (m : Int) ∧ b = .int .u64 (p : Int) ∧ Hid (m = h.toNat % 2 ^ k ∧ p = 2 ^ k % 18446744073709551616 ∧ y.toNat = h.toNat / 2 ^ k)) (fun _ _ _ i => 64 - (intOf i).toNat)
  case atStart => exact ⟨0, h, 0, 1, by omega, by simp, by simp, by simp, by simp, by simp, by simp [Hid]; omega⟩
  case round =>
    obtain ⟨k, y, m, p, hk, hkn, rfl, rfl, rfl, rfl, HH⟩ := hrel
    have hy := bv_small y
    have hfin : ¬ ((k : Int) < n ∧ k < 64) → ((mixNarrow h n).toNat : Int) = m := by
      intro hc
      rw [mixNarrow_nat, HH.out.1, show narrowBits n = k from by unfold narrowBits; omega]
    have HF := Lib.hid hfin; clear hfin hkn
    by_cases hlt : (k : Int) < n
    · by_cases hl2 : k < 64
      · have hp2 : p = 2 ^ k := by
          rw [HH.out.2.1]; apply Nat.mod_eq_of_lt
          have : (2 : Nat) ^ k ≤ 2 ^ 63 := Nat.pow_le_pow_right (by decide) (by omega)
          omega
        have HP := Lib.hid hp2; clear hp2
        go_wp2
        go_round
        case rel => exact ⟨k + 1, y >>> 1, _, _, by omega, .inl (by omega), by go_num, by rw [bv_shr y 1 2 (by decide)], by rw [narrow_round h k m p y hl2 HH.out.1 HP.out HH.out.2.2], by rw [bit_step k p hl2 HP.out], rfl, rfl, (half_step h k y HH.out.2.2).2⟩
        case measure => simp [intOf]; omega
      · go_wp2
        go_ret
        exact ⟨by rw [HF.out (by omega)]; rfl, rfl⟩
    · go_wp2
      go_ret
      exact ⟨by rw [HF.out (by omega)]; rfl, rfl⟩
theorem ret_u64 {a b : Int} (h : a = b) : Ending.returned (.int .u64 a) = .returned (.int .u64 b) := by rw [h]
theorem conv_one (w : World) (c : UInt8) (T : TypeId) :
    (convert 65 9 (.slice (some ⟨w.heap.size, 0, none⟩) 1 1)).run Try.prog (w.alloc (.cells #[.int .u8 c.toNat] T)) = .ok (.string ⟨#[c]⟩) (w.alloc (.cells #[.int .u8 c.toNat] T)) :=
  run_convert_bytes_back (P := Try.prog) (w.alloc (.cells #[.int .u8 c.toNat] T)) 65 9 5 ⟨w.heap.size, 0, none⟩ 1 [c] Try.underlying65 Try.underlying5 Try.underlying9 (by
      intro j hj
      obtain rfl : j = 0 := by simpa using hj
      simp [Addr.add])
theorem part_step (h : BitVec 64) (k : Nat) (s : ByteArray) (c : UInt8) (hc : mixDigit h k = c) (hs : s.data.toList = txtPart h k) :
    ((⟨#[c]⟩ : ByteArray) ++ s).data.toList = txtPart h (k + 1) := by
  rw [txtPart, ← hs, hc]
  simp
theorem ret_str {s : ByteArray} {l : List UInt8} (h : s.data.toList = l) : Ending.returned (.string s) = .returned (.string ⟨l.toArray⟩) := by
  subst h; simp
set_option maxHeartbeats 400000 in
theorem rtext_any (h : BitVec 64) (w : World) :
    Calls Try.prog 26 #[.int .u64 h.toNat] w fun e w' => e = .returned (.string ⟨(mixText h).toArray⟩) ∧ Below w.heap.size w w' := by
  go_enter Try.func26, Try.ntmps26
  go_wp2
  go_loopw [0, 3, 4] (fun x o i wr => ∃ k : Nat, k ≤ 13 ∧ i = .int .i64 k ∧ x = .int .u64 (h >>> (5 * k)).toNat ∧ (∃ s : ByteArray, o = .string s ∧ s.size ≤ k ∧ Hid (s.data.toList = txtPart h k)) ∧ Below w.heap.size w wr) (fun _ _ i _ => 13 - (intOf i).toNat)
  case atStart => exact ⟨0, by omega, by simp, by simp, ⟨_, rfl, by decide, rfl⟩, Below.refl _ _⟩
  case round =>
    obtain ⟨k, hk, rfl, rfl, ⟨s, rfl, hs0, hs⟩, hb⟩ := hrel
    obtain ⟨x, hx⟩ : ∃ x, x = h >>> (5 * k) := ⟨_, rfl⟩
    rw [← hx]
    have HX := Lib.hid hx; clear hx
    have hy := bv_small x
    by_cases hlt : k < 13
    · obtain ⟨c, hc⟩ : ∃ c, c = mixDigit h k := ⟨_, rfl⟩
      have hc' : c = mixLetter (x.toNat % 32) := by rw [hc, HX.out]; rfl
      have hcc := letter_cases (x.toNat % 32) (Nat.mod_lt _ (by decide))
      rw [← hc'] at hcc
      have HC := Lib.hid hc; clear hc' hc
      have hcv := fun wx => conv_one wx c
      by_cases h25 : 25 < x.toNat % 32
      · rw [if_pos h25] at hcc
        have hcc' : (x.toNat : Int) % 32 - 26 + 50 = c.toNat := by rw [hcc]; omega
        clear hcc
        go_wp2
        go_roundw
        case rel => exact ⟨k + 1, by omega, by go_num, by rw [bv_shr x 5 32 (by decide), HX.out, ← BitVec.shiftRight_add]; rfl, ⟨_, rfl, by rw [ByteArray.size_append]; show 1 + s.size ≤ k + 1; omega, part_step h k s c HC.out.symm hs.out⟩, hb.alloc hb.size _⟩
        case measure => simp [intOf]; omega
      · rw [if_neg h25] at hcc
        have hcc' : (x.toNat : Int) % 32 + 97 = c.toNat := by rw [hcc]; omega
        clear hcc
        go_wp2
        go_roundw
        case rel => exact ⟨k + 1, by omega, by go_num, by rw [bv_shr x 5 32 (by decide), HX.out, ← BitVec.shiftRight_add]; rfl, ⟨_, rfl, by rw [ByteArray.size_append]; show 1 + s.size ≤ k + 1; omega, part_step h k s c HC.out.symm hs.out⟩, hb.alloc hb.size _⟩
        case measure => simp [intOf]; omega
    · obtain rfl : k = 13 := by omega
      have hfin : s.data.toList = mixText h := by rw [hs.out, txtPart_all]
      have HF := Lib.hid hfin; clear hfin
      go_wp2
      go_ret
      exact ⟨ret_str HF.out, hb⟩
end Go.Proofs.Ytipindjchcmckaa
