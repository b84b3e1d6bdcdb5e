/- DERIVED. The walks of package mix and of its reference. -/
import Derived.Test.YtppaedndppleiaaRows
import Derived.WalkKit
import Derived.WalkSpells
import Derived.WalkLawsBesides
import Derived.Lib.Bytealg
import Derived.Lib.Hide
import Derived.Test.YtppaedndppleiaaMixMath
namespace Go.Proofs.Ytppaedndppleiaa
open Go.RowKit

theorem step_walk (h : BitVec 64) (c : UInt8) :
    IntKind.u64.wrap (bits BinOp.xor IntKind.u64 (bits BinOp.xor IntKind.u64 (bits BinOp.xor IntKind.u64 (bits BinOp.xor IntKind.u64 ↑h.toNat (IntKind.u64.wrap ↑c.toNat)) (IntKind.u64.wrap (bits BinOp.xor IntKind.u64 ↑h.toNat (IntKind.u64.wrap ↑c.toNat) * 8192)))
      (bits BinOp.xor IntKind.u64 (bits BinOp.xor IntKind.u64 ↑h.toNat (IntKind.u64.wrap ↑c.toNat)) (IntKind.u64.wrap (bits BinOp.xor IntKind.u64 ↑h.toNat (IntKind.u64.wrap ↑c.toNat) * 8192)) / 128))
      (IntKind.u64.wrap (bits BinOp.xor IntKind.u64 (bits BinOp.xor IntKind.u64 (bits BinOp.xor IntKind.u64 ↑h.toNat (IntKind.u64.wrap ↑c.toNat)) (IntKind.u64.wrap (bits BinOp.xor IntKind.u64 ↑h.toNat (IntKind.u64.wrap ↑c.toNat) * 8192)))
      (bits BinOp.xor IntKind.u64 (bits BinOp.xor IntKind.u64 ↑h.toNat (IntKind.u64.wrap ↑c.toNat)) (IntKind.u64.wrap (bits BinOp.xor IntKind.u64 ↑h.toNat (IntKind.u64.wrap ↑c.toNat) * 8192)) / 128) * 131072)) + 15111065706836454659) = ((mixStep h c).toNat : Int) := by
  rw [bv_wrap, bv_xor, bv_shl _ 13 8192 (by decide), bv_xor, bv_shr _ 7 128 (by decide), bv_xor, bv_shl _ 17 131072 (by decide), bv_xor, bv_add _ 15111065706836454659 _ (by decide)]
  rfl

set_option maxHeartbeats 400000 in
theorem add_any (h : BitVec 64) (s : ByteArray) (w : World) (hs : s.size ≤ maxLen) :
    Calls Try.prog 10 #[.int .u64 h.toNat, .string s] w fun e w' => e = .returned (.int .u64 (mixAdd h s.data.toList).toNat) ∧ w = w' := by
  unfold maxLen at hs
  go_enter Try.func10, Try.ntmps10
  go_wp2
  go_loop [0, 8] (fun x i => ∃ k : Nat, k ≤ s.size ∧ i = .int .i64 k ∧ x = .int .u64 (mixAdd h (s.data.toList.take k)).toNat) (fun _ i => s.size - (intOf i).toNat)
  case atStart => exact ⟨0, Nat.zero_le _, rfl, rfl⟩
  case round =>
    obtain ⟨k, hk, rfl, rfl⟩ := hrel
    by_cases hlt : k < s.size
    · go_wp2
      go_round
      case rel => exact ⟨k + 1, by omega, by go_num, by rw [step_walk, mixAdd_take _ _ _ hlt]⟩
      case measure => simp [intOf]; omega
    · go_wp2
      go_ret
      exact ⟨by rw [List.take_of_length_le (by simp; omega)]; rfl, rfl⟩

set_option maxHeartbeats 400000 in
theorem start_any (h : BitVec 64) (w : World) :
    Calls Try.prog 11 #[.int .u64 h.toNat] w fun e w' => e = .returned (.int .u64 (mixStart h).toNat) ∧ w = w' := by
  have hx : bits BinOp.xor IntKind.u64 ↑h.toNat 11400714819323198485 = ((mixStart h).toNat : Int) := by
    rw [show (11400714819323198485 : Int) = ((0x9e3779b97f4a7c15#64 : BitVec 64).toNat : Int) from by decide, bv_xor]; rfl
  have hX := Lib.hid hx; clear hx
  go_enter Try.func11, Try.ntmps11
  go_wp2
  go_ret
  exact ⟨by rw [← hX.out]; rfl, rfl⟩
set_option maxHeartbeats 400000 in
theorem idx_any (s : ByteArray) (c : UInt8) (w : World)  :
    Calls Try.prog 22 #[.string s, .int .u8 c.toNat] w fun e w' => e = .returned (.int .i64 (Lib.indexByte s.data.toList c)) ∧ w = w' := by
  go_enter Try.func22, Try.ntmps22
  go_wp2
  rw [run_callFunc_extern (P := Try.prog) Try.func25 (by kernel_rfl) (by kernel_rfl) (by kernel_rfl) (e := Extern.BytealgIndexByte.indexByte) (by kernel_rfl), Lib.run_indexByteString]
  simp only [Result.andThen]
  rw [Oper.upon_value]
  go_wp2
  go_ret
  exact ⟨by simp, rfl⟩
set_option maxHeartbeats 400000 in
theorem of_any (s : ByteArray) (w : World) (hs : s.size ≤ maxLen) :
    Calls Try.prog 16 #[.string s] w fun e w' => e = .returned (.int .u64 (mixOf s.data.toList).toNat) ∧ w = w' := by
  have hsz : (s.size : Int) = ((BitVec.ofNat 64 s.data.toList.length).toNat : Int) := by
    unfold maxLen at hs
    rw [BitVec.toNat_ofNat]
    have : s.data.toList.length = s.size := by simp
    rw [this]; omega
  have HS := Lib.hid hsz; clear hsz
  have hs' := hs
  unfold maxLen at hs
  go_enter Try.func16, Try.ntmps16
  go_wp2_with fail
  rw [HS.out]
  refine (start_any _ _).mono ?_
  rintro e w' ⟨rfl, rfl⟩
  go_wp2_with fail
  refine (add_any _ _ _ hs').mono ?_
  rintro e w' ⟨rfl, rfl⟩
  go_wp2_with fail
  go_ret
  exact ⟨rfl, rfl⟩
set_option maxHeartbeats 400000 in
theorem narrow_any (h : BitVec 64) (n : Int) (w : World) :
    Calls Try.prog 17 #[.int .u64 h.toNat, .int .i64 n] w fun e w' => e = .returned (.int .u64 (mixNarrow h n).toNat) ∧ w = w' := by
  by_cases h1 : 64 ≤ n
  · have e : (mixNarrow h n).toNat = h.toNat := by
      rw [mixNarrow_nat, show narrowBits n = 64 from by unfold narrowBits; omega]
      exact Nat.mod_eq_of_lt h.isLt
    rw [e]; clear e
    go_enter Try.func17, Try.ntmps17
    go_wp2
    go_ret
    exact ⟨rfl, rfl⟩
  · by_cases h2 : 0 ≤ n
    · obtain ⟨k, rfl⟩ : ∃ k : Nat, n = k := ⟨n.toNat, by omega⟩
      have hp : (2 : Nat) ^ k ≤ 2 ^ 63 := Nat.pow_le_pow_right (by decide) (by omega)
      have hq := Nat.two_pow_pos k
      have e : bits BinOp.and IntKind.u64 (↑h.toNat) (IntKind.u64.wrap (IntKind.u64.wrap (2 ^ k) - 1)) = ((mixNarrow h k).toNat : Int) := by
        have e1 : IntKind.u64.wrap (2 ^ k) = ((2 ^ k : Nat) : Int) := by
          rw [IntKind.wrap_u64, show (2 : Int) ^ k = ((2 ^ k : Nat) : Int) from by simp]; omega
        have e2 : IntKind.u64.wrap (((2 ^ k : Nat) : Int) - 1) = ((2 ^ k - 1 : Nat) : Int) := by
          rw [IntKind.wrap_u64]; omega
        rw [e1, e2, and_mask h _ k rfl (by omega), mixNarrow_nat, show narrowBits (k : Int) = k from by unfold narrowBits; omega]
      have E := Lib.hid e; clear e hp hq
      go_enter Try.func17, Try.ntmps17
      go_wp2
      go_ret
      exact ⟨by rw [← E.out]; rfl, rfl⟩
    · have e : bits BinOp.and IntKind.u64 (↑h.toNat) 0 = ((mixNarrow h n).toNat : Int) := by
        have := and_mask h 0 0 (by decide) (by decide)
        simp at this
        rw [this, mixNarrow_nat, show narrowBits n = 0 from by unfold narrowBits; omega]
        simp
      have E := Lib.hid e; clear e
      go_enter Try.func17, Try.ntmps17
      go_wp2
      go_ret
      exact ⟨by rw [← E.out]; rfl, rfl⟩

set_option maxHeartbeats 400000 in
theorem text_any (h : BitVec 64) (w : World) :
    Calls Try.prog 12 #[.int .u64 h.toNat] w fun e w' => e = .returned (.string ⟨(mixText h).toArray⟩) ∧ Below w.heap.size w w' := by
  have hcv : ∀ C : Array Value, C = txtCells h 13 → (convert 32 9 (.slice (some ⟨w.heap.size, 0, none⟩) 13 13)).run Try.prog (w.alloc (.cells C 39)) = .ok (.string ⟨(mixText h).toArray⟩) (w.alloc (.cells C 39)) := by
    intro C hC
    have hl : (mixText h).length = 13 := by simp [mixText]
    have := run_convert_bytes_back (P := Try.prog) (w.alloc (.cells C 39)) 32 9 5 ⟨w.heap.size, 0, none⟩ 13 (mixText h) Try.underlying32 Try.underlying5 Try.underlying9 (by
      intro j hj
      rw [hC, txtCells_all, Addr.add_lit, Nat.zero_add]
      simp [hj])
    rw [hl] at this
    exact this
  have HCV := Lib.hid hcv; clear hcv
  go_enter Try.func12, Try.ntmps12
  go_wp2
  go_loopw [0, 5] (fun x i wr => ∃ k : Nat, k ≤ 13 ∧ i = .int .i64 k ∧ x = .int .u64 (h >>> (5 * k)).toNat ∧ wr = w.alloc (.cells (txtCells h k) 39)) (fun _ i _ => 13 - (intOf i).toNat)
  case atStart => exact ⟨0, by omega, by simp, by simp, rfl⟩
  case round =>
    obtain ⟨k, hk, rfl, rfl, rfl⟩ := hrel
    obtain ⟨x, hx⟩ : ∃ x, x = h >>> (5 * k) := ⟨_, rfl⟩
    obtain ⟨C, hC⟩ : ∃ C, C = txtCells h k := ⟨_, rfl⟩
    have hz : C.size = 13 := by rw [hC]; exact txtCells_size h k
    rw [← hx, ← hC]
    have HX := Lib.hid hx; have HC := Lib.hid hC; clear hx hC
    by_cases hlt : k < 13
    · obtain ⟨m, hm, hm', ha⟩ : ∃ m : Nat, m < 32 ∧ Hid (m = x.toNat % 32) ∧ bits BinOp.and IntKind.u64 (x.toNat : Int) 31 = (m : Int) := ⟨x.toNat % 32, Nat.mod_lt _ (by decide), rfl, and31 x⟩
      obtain ⟨c0, hc0⟩ : ∃ c0, C[12 - k]? = some c0 := ⟨C[12 - k]'(by omega), by rw [Array.getElem?_eq_getElem]⟩
      have hL := letter_get m hm
      have HL := Lib.hid hL; clear hL
      go_wp2
      go_round
      case rel => exact ⟨k + 1, by omega, by go_num, by rw [HX.out, shr5], by rw [HL.out]; rw [hm'.out, HX.out, HC.out]; rfl⟩
      case measure => simp [intOf]; omega
    · obtain rfl : k = 13 := by omega
      have hcv := HCV.out C HC.out
      clear hz
      go_wp2
      go_ret
      exact ⟨rfl, (Below.refl _ _).alloc (Nat.le_refl _) _⟩

theorem idxl_any (c : UInt8) (d : Int) (hd : Hid (Lib.indexByte mixLetters c = d)) (w : World)  :
    Calls Try.prog 22 #[.string ⟨#[97, 98, 99, 100, 101, 102, 103, 104, 105, 106, 107, 108, 109, 110, 111, 112, 113, 114, 115, 116, 117, 118, 119, 120, 121, 122, 50, 51, 52, 53, 54, 55]⟩, .int .u8 c.toNat] w fun e w' => e = .returned (.int .i64 d) ∧ w = w' :=
  (idx_any ⟨#[97, 98, 99, 100, 101, 102, 103, 104, 105, 106, 107, 108, 109, 110, 111, 112, 113, 114, 115, 116, 117, 118, 119, 120, 121, 122, 50, 51, 52, 53, 54, 55]⟩ c w).mono fun _ _ ⟨he, hw⟩ => ⟨he.trans (by rw [← hd.out]; rfl), hw⟩
theorem parse_stop (R : Option (BitVec 64)) (k : Nat) (h : BitVec 64) (c : UInt8) (l : List UInt8) (hr : R = parseGo k h (c :: l)) (hb : Lib.indexByte mixLetters c < 0 ∨ (k = 0 ∧ 15 < Lib.indexByte mixLetters c)) : R = none := by
  rw [hr, parseGo, if_pos hb]
theorem parse_go (R : Option (BitVec 64)) (k : Nat) (h : BitVec 64) (c : UInt8) (l : List UInt8) (hr : R = parseGo k h (c :: l)) (hb : ¬ (Lib.indexByte mixLetters c < 0 ∨ (k = 0 ∧ 15 < Lib.indexByte mixLetters c))) :
    R = parseGo (k + 1) ((h <<< 5) ||| BitVec.ofInt 64 (Lib.indexByte mixLetters c)) l := by
  rw [hr, parseGo, if_neg hb]
set_option maxHeartbeats 1000000 in
theorem parse_any (s : ByteArray) (w : World) (hs : s.size ≤ maxLen) :
    Calls Try.prog 13 #[.string s] w fun e w' => e = .returned (.tuple #[.int .u64 ((mixParse s.data.toList).getD 0#64).toNat, .bool (mixParse s.data.toList).isSome]) ∧ w = w' := by
  unfold maxLen at hs
  have hll : s.data.toList.length = s.size := by simp
  by_cases h13 : s.size = 13
  · have hp : mixParse s.data.toList = parseGo 0 0#64 s.data.toList := by unfold mixParse; rw [if_pos (by omega)]
    have hq : parseGo 0 0#64 s.data.toList = parseGo 0 0#64 (s.data.toList.drop 0) := rfl
    rw [hp]
    have HQ := Lib.hid hq
    obtain ⟨R, hR⟩ : ∃ R, R = parseGo 0 0#64 s.data.toList := ⟨_, rfl⟩
    rw [← hR] at HQ ⊢
    have h13' := Lib.hid h13
    have h13b : ((s.size : Int) != 13) = false := by rw [h13]; rfl
    have h13c : s.size ≤ 13 := by omega
    clear hp hq h13 hll hR
    go_enter Try.func13, Try.ntmps13
    go_wp2
    go_loop [4, 12] (fun x i => ∃ (k : Nat) (h : BitVec 64), k ≤ 13 ∧ i = .int .i64 k ∧ x = .int .u64 h.toNat ∧ Hid (R = parseGo k h (s.data.toList.drop k))) (fun _ i => 13 - (intOf i).toNat)
    case atStart => exact ⟨0, 0#64, by omega, by simp, by simp, HQ⟩
    case round =>
      obtain ⟨k, h, hk, rfl, rfl, hr⟩ := hrel
      by_cases hlt : k < s.size
      · have hd := drop_cons s k hlt
        obtain ⟨D, hD⟩ : ∃ D, D = s.data.toList.drop (k + 1) := ⟨_, rfl⟩
        rw [← hD] at hd
        have hr2 := hr.out
        rw [hd] at hr2
        have HD := Lib.hid hD; clear hD hd hr
        obtain ⟨c, hc⟩ : ∃ c, c = s[k] := ⟨_, rfl⟩
        rw [← hc] at hr2
        have HR := Lib.hid hr2; clear hr2
        have hc' : s[k] = c := hc.symm
        clear hc
        obtain ⟨d, hd⟩ : ∃ d, Lib.indexByte mixLetters c = d := ⟨_, rfl⟩
        have hcase : d < 0 ∨ ∃ n : Nat, n < 32 ∧ d = n := by
          rcases index_cases c with ⟨h1, _⟩ | ⟨n, h1, h2, _⟩
          · left; omega
          · right; exact ⟨n, h1, by omega⟩
        have HD2 := Lib.hid hd; clear hd
        rcases hcase with hneg | ⟨n, hn, rfl⟩
        · have hR : R = none := parse_stop R k h c D HR.out (.inl (by rw [HD2.out]; exact hneg))
          subst hR
          go_wp2_with fail
          refine (idxl_any _ _ HD2 _).mono ?_
          rintro e w' ⟨rfl, rfl⟩
          go_wp2
          go_ret2
          exact ⟨rfl, rfl⟩
        · have hsh := bv_shl h 5 32 (by decide)
          have hor := bv_or_small h n hn
          have HOR := Lib.hid hor; clear hor
          have hgo : ¬ (k = 0 ∧ 15 < n) → R = parseGo (k + 1) ((h <<< 5) ||| BitVec.ofNat 64 n) D := fun hn => by
            have := parse_go R k h c D HR.out (by rw [HD2.out]; omega)
            rw [HD2.out, ofInt_nat] at this
            exact this
          have HGO := Lib.hid hgo; clear hgo
          by_cases hb : k = 0 ∧ 15 < n
          · obtain ⟨rfl, h15⟩ := hb
            have hR : R = none := parse_stop R 0 h c D HR.out (.inr ⟨rfl, by rw [HD2.out]; omega⟩)
            subst hR
            go_wp2_with fail
            refine (idxl_any _ _ HD2 _).mono ?_
            rintro e w' ⟨rfl, rfl⟩
            go_wp2
            go_ret2
            exact ⟨rfl, rfl⟩
          · have HG2 := Lib.hid (HGO.out hb)
            have HD3 := Lib.hid (show D = s.data.toList.drop (k + 1) from HD.out)
            by_cases h0 : k = 0
            · obtain rfl := h0
              have h15 : ¬ 15 < n := by omega
              clear hb
              go_wp2_with fail
              refine (idxl_any _ _ HD2 _).mono ?_
              rintro e w' ⟨rfl, rfl⟩
              go_wp2
              go_round
              case rel => exact ⟨1, (h <<< 5) ||| BitVec.ofNat 64 n, by omega, by go_num, by rw [← HOR.out]; simp, by rw [← HD3.out]; exact HG2⟩
              case measure => simp [intOf]
            · have h0' : ((k : Int) == 0) = false := by simp; omega
              clear hb
              go_wp2_with fail
              refine (idxl_any _ _ HD2 _).mono ?_
              rintro e w' ⟨rfl, rfl⟩
              go_wp2
              go_round
              case rel => exact ⟨k + 1, (h <<< 5) ||| BitVec.ofNat 64 n, by omega, by go_num, by rw [← HOR.out]; simp, by rw [← HD3.out]; exact HG2⟩
              case measure => simp [intOf]; omega
      · obtain rfl : k = 13 := by have := h13'.out; omega
        have e : s.data.toList.drop 13 = [] := by simp; have := h13'.out; omega
        rw [e] at hr
        have hR : R = some h := hr.out
        subst hR
        clear e hr HQ
        go_wp2
        go_ret2
        exact ⟨rfl, rfl⟩
  · have hb : ((s.size : Int) != 13) = true := by simp; omega
    have hp : mixParse s.data.toList = none := by unfold mixParse; rw [if_neg (by omega)]
    rw [hp]
    clear hp hll
    go_enter Try.func13, Try.ntmps13
    go_wp2
    go_ret2
    exact ⟨rfl, rfl⟩
/-! ### The reference -/
set_option maxHeartbeats 400000 in
theorem radd_any (h : BitVec 64) (s : ByteArray) (w : World) (hs : s.size ≤ maxLen) :
    Calls Try.prog 19 #[.int .u64 h.toNat, .string s] w fun e w' => e = .returned (.int .u64 (mixAdd h s.data.toList).toNat) ∧ w = w' := by
  unfold maxLen at hs
  go_enter Try.func19, Try.ntmps19
  go_wp2
  go_loop [0, 5] (fun x i => ∃ k : Nat, k ≤ s.size ∧ i = .int .i64 k ∧ x = .int .u64 (mixAdd h (s.data.toList.take k)).toNat) (fun _ i => s.size - (intOf i).toNat)
  case atStart => exact ⟨0, Nat.zero_le _, rfl, rfl⟩
  case round =>
    obtain ⟨k, hk, rfl, rfl⟩ := hrel
    by_cases hlt : k < s.size
    · go_wp2
      go_round
      case rel => exact ⟨k + 1, by omega, by go_num, by rw [bv_wrap, bv_xor, bv_shl _ 13 8192 (by decide), bv_xor, bv_quo _ 7 128 (by decide), bv_xor, bv_shl _ 17 131072 (by decide), bv_xor, bv_add _ 15111065706836454659 _ (by decide), mixAdd_take _ _ _ hlt]; rfl⟩
      case measure => simp [intOf]; omega
    · go_wp2
      go_ret
      exact ⟨by rw [List.take_of_length_le (by simp; omega)]; rfl, rfl⟩
set_option maxHeartbeats 400000 in
theorem rstart_any (h : BitVec 64) (w : World) :
    Calls Try.prog 18 #[.int .u64 h.toNat] w fun e w' => e = .returned (.int .u64 (mixStart h).toNat) ∧ w = w' := by
  have hx : bits BinOp.xor IntKind.u64 ↑h.toNat 11400714819323198485 = ((mixStart h).toNat : Int) := by
    rw [show (11400714819323198485 : Int) = ((0x9e3779b97f4a7c15#64 : BitVec 64).toNat : Int) from by decide, bv_xor]; rfl
  have hX := Lib.hid hx; clear hx
  go_enter Try.func18, Try.ntmps18
  go_wp2
  go_ret
  exact ⟨by rw [← hX.out]; rfl, rfl⟩
set_option maxHeartbeats 400000 in
theorem rof_any (s : ByteArray) (w : World) (hs : s.size ≤ maxLen) :
    Calls Try.prog 20 #[.string s] w fun e w' => e = .returned (.int .u64 (mixOf s.data.toList).toNat) ∧ w = w' := by
  have hsz : (s.size : Int) = ((BitVec.ofNat 64 s.data.toList.length).toNat : Int) := by
    unfold maxLen at hs
    rw [BitVec.toNat_ofNat]
    have : s.data.toList.length = s.size := by simp
    rw [this]; omega
  have HS := Lib.hid hsz; clear hsz
  have hs' := hs
  unfold maxLen at hs
  go_enter Try.func20, Try.ntmps20
  go_wp2_with fail
  rw [HS.out]
  refine (rstart_any _ _).mono ?_
  rintro e w' ⟨rfl, rfl⟩
  go_wp2_with fail
  refine (radd_any _ _ _ hs').mono ?_
  rintro e w' ⟨rfl, rfl⟩
  go_wp2_with fail
  go_ret
  exact ⟨rfl, rfl⟩
set_option maxHeartbeats 400000 in
theorem rnarrow_any (h : BitVec 64) (n : Int) (w : World) :
    Calls Try.prog 21 #[.int .u64 h.toNat, .int .i64 n] w fun e w' => e = .returned (.int .u64 (mixNarrow h n).toNat) ∧ w = w' := by
  go_enter Try.func21, Try.ntmps21
  go_wp2
  go_loop [0, 5, 6, 7] (fun x o b i => ∃ (k : Nat) (y : BitVec 64) (m p : Nat), k ≤ 64 ∧ ((k : Int) ≤ n ∨ k = 0) ∧ i = .int .i64 k ∧ x = .int .u64 y.toNat ∧ o = .int .u64 (m : Int) ∧ b = .int .u64 (p : Int) ∧ Hid (m = h.toNat % 2 ^ k ∧ p = 2 ^ k % 18446744073709551616 ∧ y.toNat = h.toNat / 2 ^ k)) (fun _ _ _ i => 64 - (intOf i).toNat)
  case atStart => exact ⟨0, h, 0, 1, by omega, by simp, by simp, by simp, by simp, by simp, by simp [Hid]; omega⟩
  case round =>
    obtain ⟨k, y, m, p, hk, hkn, rfl, rfl, rfl, rfl, HH⟩ := hrel
    have hy := bv_small y
    have hfin : ¬ ((k : Int) < n ∧ k < 64) → ((mixNarrow h n).toNat : Int) = m := by
      intro hc
      rw [mixNarrow_nat, HH.out.1, show narrowBits n = k from by unfold narrowBits; omega]
    have HF := Lib.hid hfin; clear hfin hkn
    by_cases hlt : (k : Int) < n
    · by_cases hl2 : k < 64
      · have hp2 : p = 2 ^ k := by
          rw [HH.out.2.1]; apply Nat.mod_eq_of_lt
          have : (2 : Nat) ^ k ≤ 2 ^ 63 := Nat.pow_le_pow_right (by decide) (by omega)
          omega
        have HP := Lib.hid hp2; clear hp2
        go_wp2
        go_round
        case rel => exact ⟨k + 1, y >>> 1, _, _, by omega, .inl (by omega), by go_num, by rw [bv_shr y 1 2 (by decide)], by rw [narrow_round h k m p y hl2 HH.out.1 HP.out HH.out.2.2], by rw [bit_step k p hl2 HP.out], rfl, rfl, (half_step h k y HH.out.2.2).2⟩
        case measure => simp [intOf]; omega
      · go_wp2
        go_ret
        exact ⟨by rw [HF.out (by omega)]; rfl, rfl⟩
    · go_wp2
      go_ret
      exact ⟨by rw [HF.out (by omega)]; rfl, rfl⟩
theorem ret_u64 {a b : Int} (h : a = b) : Ending.returned (.int .u64 a) = .returned (.int .u64 b) := by rw [h]
set_option maxHeartbeats 400000 in
theorem digit_any (c : UInt8) (w : World)  :
    Calls Try.prog 23 #[.int .u8 c.toNat] w fun e w' => e = .returned (.int .u64 (if Lib.indexByte mixLetters c < 0 then 32 else Lib.indexByte mixLetters c)) ∧ w = w' := by
  rcases index_cases c with ⟨h1, h2, h3⟩ | ⟨n, hn, h1, _, h2 | h2⟩
  all_goals rw [h1]
  · have H1 := Lib.hid h1; clear h1
    rw [if_pos (by decide)]
    by_cases a : 97 ≤ c.toNat <;> by_cases b : 50 ≤ c.toNat
    · have a' : ¬ c.toNat ≤ 122 := by omega
      have b' : ¬ c.toNat ≤ 55 := by omega
      go_enter Try.func23, Try.ntmps23
      go_wp2
      go_ret
      exact ⟨rfl, rfl⟩
    · omega
    · have b' : ¬ c.toNat ≤ 55 := by omega
      go_enter Try.func23, Try.ntmps23
      go_wp2
      go_ret
      exact ⟨rfl, rfl⟩
    · go_enter Try.func23, Try.ntmps23
      go_wp2
      go_ret
      exact ⟨rfl, rfl⟩
  · have H1 := Lib.hid h1; clear h1
    rw [if_neg (by omega)]
    go_enter Try.func23, Try.ntmps23
    go_wp2
    go_ret
    exact ⟨ret_u64 (by omega), rfl⟩
  · have H1 := Lib.hid h1; clear h1
    rw [if_neg (by omega)]
    go_enter Try.func23, Try.ntmps23
    go_wp2
    go_ret
    exact ⟨ret_u64 (by omega), rfl⟩
theorem conv_one (w : World) (c : UInt8) (T : TypeId) :
    (convert 32 9 (.slice (some ⟨w.heap.size, 0, none⟩) 1 1)).run Try.prog (w.alloc (.cells #[.int .u8 c.toNat] T)) = .ok (.string ⟨#[c]⟩) (w.alloc (.cells #[.int .u8 c.toNat] T)) :=
  run_convert_bytes_back (P := Try.prog) (w.alloc (.cells #[.int .u8 c.toNat] T)) 32 9 5 ⟨w.heap.size, 0, none⟩ 1 [c] Try.underlying32 Try.underlying5 Try.underlying9 (by
      intro j hj
      obtain rfl : j = 0 := by simpa using hj
      simp [Addr.add])
theorem part_step (h : BitVec 64) (k : Nat) (s : ByteArray) (c : UInt8) (hc : mixDigit h k = c) (hs : s.data.toList = txtPart h k) :
    ((⟨#[c]⟩ : ByteArray) ++ s).data.toList = txtPart h (k + 1) := by
  rw [txtPart, ← hs, hc]
  simp
theorem ret_str {s : ByteArray} {l : List UInt8} (h : s.data.toList = l) : Ending.returned (.string s) = .returned (.string ⟨l.toArray⟩) := by
  subst h; simp
set_option maxHeartbeats 400000 in
theorem rtext_any (h : BitVec 64) (w : World) :
    Calls Try.prog 14 #[.int .u64 h.toNat] w fun e w' => e = .returned (.string ⟨(mixText h).toArray⟩) ∧ Below w.heap.size w w' := by
  go_enter Try.func14, Try.ntmps14
  go_wp2
  go_loopw [0, 3, 4] (fun x o i wr => ∃ k : Nat, k ≤ 13 ∧ i = .int .i64 k ∧ x = .int .u64 (h >>> (5 * k)).toNat ∧ (∃ s : ByteArray, o = .string s ∧ s.size ≤ k ∧ Hid (s.data.toList = txtPart h k)) ∧ Below w.heap.size w wr) (fun _ _ i _ => 13 - (intOf i).toNat)
  case atStart => exact ⟨0, by omega, by simp, by simp, ⟨_, rfl, by decide, rfl⟩, Below.refl _ _⟩
  case round =>
    obtain ⟨k, hk, rfl, rfl, ⟨s, rfl, hs0, hs⟩, hb⟩ := hrel
    obtain ⟨x, hx⟩ : ∃ x, x = h >>> (5 * k) := ⟨_, rfl⟩
    rw [← hx]
    have HX := Lib.hid hx; clear hx
    have hy := bv_small x
    by_cases hlt : k < 13
    · obtain ⟨c, hc⟩ : ∃ c, c = mixDigit h k := ⟨_, rfl⟩
      have hc' : c = mixLetter (x.toNat % 32) := by rw [hc, HX.out]; rfl
      have hcc := letter_cases (x.toNat % 32) (Nat.mod_lt _ (by decide))
      rw [← hc'] at hcc
      have HC := Lib.hid hc; clear hc' hc
      have hcv := fun wx => conv_one wx c
      by_cases h25 : 25 < x.toNat % 32
      · rw [if_pos h25] at hcc
        have hcc' : (x.toNat : Int) % 32 - 26 + 50 = c.toNat := by rw [hcc]; omega
        clear hcc
        go_wp2
        go_roundw
        case rel => exact ⟨k + 1, by omega, by go_num, by rw [bv_shr x 5 32 (by decide), HX.out, ← BitVec.shiftRight_add]; rfl, ⟨_, rfl, by rw [ByteArray.size_append]; show 1 + s.size ≤ k + 1; omega, part_step h k s c HC.out.symm hs.out⟩, hb.alloc hb.size _⟩
        case measure => simp [intOf]; omega
      · rw [if_neg h25] at hcc
        have hcc' : (x.toNat : Int) % 32 + 97 = c.toNat := by rw [hcc]; omega
        clear hcc
        go_wp2
        go_roundw
        case rel => exact ⟨k + 1, by omega, by go_num, by rw [bv_shr x 5 32 (by decide), HX.out, ← BitVec.shiftRight_add]; rfl, ⟨_, rfl, by rw [ByteArray.size_append]; show 1 + s.size ≤ k + 1; omega, part_step h k s c HC.out.symm hs.out⟩, hb.alloc hb.size _⟩
        case measure => simp [intOf]; omega
    · obtain rfl : k = 13 := by omega
      have hfin : s.data.toList = mixText h := by rw [hs.out, txtPart_all]
      have HF := Lib.hid hfin; clear hfin
      go_wp2
      go_ret
      exact ⟨ret_str HF.out, hb⟩
theorem mp_not (l : List UInt8) (h : l.length ≠ 13) : mixParse l = none := by unfold mixParse; rw [if_neg h]
theorem mp_is (l : List UInt8) (h : l.length = 13) : mixParse l = parseGo 0 0#64 l := by unfold mixParse; rw [if_pos h]
set_option maxHeartbeats 1000000 in
theorem rparse_any (s : ByteArray) (w : World) (hs : s.size ≤ maxLen) :
    Calls Try.prog 15 #[.string s] w fun e w' => e = .returned (.tuple #[.int .u64 ((mixParse s.data.toList).getD 0#64).toNat, .bool (mixParse s.data.toList).isSome]) ∧ w = w' := by
  unfold maxLen at hs
  have hll : s.data.toList.length = s.size := by simp
  obtain ⟨R, hR⟩ : ∃ R, R = mixParse s.data.toList := ⟨_, rfl⟩
  rw [← hR]
  have HQ : Hid (s.size = 13 → R = parseGo 0 0#64 (s.data.toList.drop 0)) := fun h => by rw [hR, mp_is _ (by omega)]; rfl
  have HN : Hid (s.size ≠ 13 → R = none) := fun h => by rw [hR, mp_not _ (by omega)]
  clear hll hR
  go_enter Try.func15, Try.ntmps15
  go_wp2
  go_loop [4, 5] (fun x i => ∃ (k : Nat) (h : BitVec 64), k ≤ s.size ∧ k ≤ 13 ∧ i = .int .i64 k ∧ x = .int .u64 h.toNat ∧ Hid (s.size = 13 → R = parseGo k h (s.data.toList.drop k))) (fun _ i => 13 - (intOf i).toNat)
  case atStart => exact ⟨0, 0#64, by omega, by omega, by simp, by simp, HQ⟩
  case round =>
    obtain ⟨k, h, hk, hk3, rfl, rfl, hr⟩ := hrel
    by_cases hlt : k < s.size ∧ k < 13
    · obtain ⟨hlt, hl3⟩ := hlt
      have hd := drop_cons s k hlt
      obtain ⟨D, hD⟩ : ∃ D, D = s.data.toList.drop (k + 1) := ⟨_, rfl⟩
      rw [← hD] at hd
      have hr2 := hr.out
      rw [hd] at hr2
      have HD := Lib.hid hD; clear hD hd hr
      obtain ⟨c, hc⟩ : ∃ c, c = s[k] := ⟨_, rfl⟩
      rw [← hc] at hr2
      have HR := Lib.hid hr2; clear hr2
      have hc' : s[k] = c := hc.symm
      clear hc
      obtain ⟨d, hd⟩ : ∃ d, Lib.indexByte mixLetters c = d := ⟨_, rfl⟩
      have hcase : d < 0 ∨ ∃ n : Nat, n < 32 ∧ d = n := by
        rcases index_cases c with ⟨h1, _⟩ | ⟨n, h1, h2, _⟩
        · left; omega
        · right; exact ⟨n, h1, by omega⟩
      have hdg := fun wx => digit_any c wx
      rw [hd] at hdg
      have HD2 := Lib.hid hd; clear hd
      have stop : (d < 0 ∨ (k = 0 ∧ 15 < d)) → R = none := fun hb => by
        by_cases h13 : s.size = 13
        · exact parse_stop R k h c D (HR.out h13) (by rw [HD2.out]; exact hb)
        · exact HN.out h13
      have ST := Lib.hid stop; clear stop
      rcases hcase with hneg | ⟨n, hn, rfl⟩
      · rw [if_pos hneg] at hdg
        have hR := ST.out (.inl hneg)
        subst hR
        have HDG := Lib.hid hdg; clear hdg
        go_wp2_with fail
        refine (HDG.out _).mono ?_
        rintro e w' ⟨rfl, rfl⟩
        go_wp2
        go_ret2
        exact ⟨rfl, rfl⟩
      · rw [if_neg (by omega)] at hdg
        have HDG := Lib.hid hdg; clear hdg
        have hsh := bv_shl h 5 32 (by decide)
        obtain ⟨y, hy⟩ : ∃ y, y = h <<< 5 := ⟨_, rfl⟩
        have hor := bv_add_small h n hn
        rw [← hy] at hor hsh
        have HOR := Lib.hid hor; clear hor
        have HY := Lib.hid hy; clear hy
        have hgo : ¬ (k = 0 ∧ 15 < n) → s.size = 13 → R = parseGo (k + 1) ((h <<< 5) ||| BitVec.ofNat 64 n) D := fun hn h13 => by
          have := parse_go R k h c D (HR.out h13) (by rw [HD2.out]; omega)
          rw [HD2.out, ofInt_nat] at this
          exact this
        have HGO := Lib.hid hgo; clear hgo
        by_cases hb : k = 0 ∧ 15 < n
        · obtain ⟨rfl, h15⟩ := hb
          have hR : R = none := ST.out (.inr ⟨rfl, by omega⟩)
          subst hR
          go_wp2_with fail
          refine (HDG.out _).mono ?_
          rintro e w' ⟨rfl, rfl⟩
          go_wp2
          go_ret2
          exact ⟨rfl, rfl⟩
        · have HG2 := Lib.hid (HGO.out hb)
          have HD3 := Lib.hid (show D = s.data.toList.drop (k + 1) from HD.out)
          by_cases h0 : k = 0
          · obtain rfl := h0
            have h15 : ¬ 15 < n := by omega
            clear hb
            go_wp2_with fail
            refine (HDG.out _).mono ?_
            rintro e w' ⟨rfl, rfl⟩
            go_wp2
            go_round
            case rel => exact ⟨1, (h <<< 5) ||| BitVec.ofNat 64 n, by omega, by omega, by go_num, by rw [HOR.out, HY.out], by rw [← HD3.out]; exact HG2⟩
            case measure => simp [intOf]
          · have h0' : ((k : Int) == 0) = false := by simp; omega
            clear hb
            go_wp2_with fail
            refine (HDG.out _).mono ?_
            rintro e w' ⟨rfl, rfl⟩
            go_wp2
            go_round
            case rel => exact ⟨k + 1, (h <<< 5) ||| BitVec.ofNat 64 n, by omega, by omega, by go_num, by rw [HOR.out, HY.out], by rw [← HD3.out]; exact HG2⟩
            case measure => simp [intOf]; omega
    · by_cases h13 : s.size = 13
      · obtain rfl : k = 13 := by omega
        have e : s.data.toList.drop 13 = [] := by simp; omega
        have hr2 := hr.out h13
        rw [e] at hr2
        have hR : R = some h := hr2
        subst hR
        have hb : ((s.size : Int) != 13) = false := by rw [h13]; rfl
        have hn : ¬ 13 < s.size := by omega
        clear e hr HQ HN hr2 h13 hlt
        go_wp2
        go_ret2
        exact ⟨rfl, rfl⟩
      · have hb : ((s.size : Int) != 13) = true := by simp; omega
        have hR := HN.out h13
        subst hR
        by_cases hls : k < s.size
        · have h3 : ¬ k < 13 := by omega
          clear hlt
          go_wp2
          go_ret2
          exact ⟨rfl, rfl⟩
        · clear hlt
          go_wp2
          go_ret2
          exact ⟨rfl, rfl⟩
end Go.Proofs.Ytppaedndppleiaa
