/- DERIVED. The walks of the laws of layer 2 (mix). -/
import Derived.Test.YtppaedndppleiaaMixWalks
import Derived.Test.YtppaedndppleiaaMixMore
import Derived.RegionTactic
import Derived.BigRegion
namespace Go.Proofs.Ytppaedndppleiaa
open Go.RowKit

theorem text_at (x : Int) (h : BitVec 64) (l : List UInt8) (hx : x = h.toNat) (hl : mixText h = l) (w : World) :
    Calls Try.prog 12 #[.int .u64 x] w fun e w' => e = .returned (.string ⟨l.toArray⟩) ∧ Below w.heap.size w w' := by
  subst hx hl; exact text_any h w
theorem start_at (x : Int) (h : BitVec 64) (r : Int) (hx : x = h.toNat) (hr : ((mixStart h).toNat : Int) = r) (w : World) :
    Calls Try.prog 11 #[.int .u64 x] w fun e w' => e = .returned (.int .u64 r) ∧ w = w' := by
  subst hx hr; exact start_any h w
theorem add_at (x : Int) (h : BitVec 64) (s : ByteArray) (r : Int) (hx : x = h.toNat) (hr : ((mixAdd h s.data.toList).toNat : Int) = r) (hs : s.size ≤ maxLen) (w : World) :
    Calls Try.prog 10 #[.int .u64 x, .string s] w fun e w' => e = .returned (.int .u64 r) ∧ w = w' := by
  subst hx hr; exact add_any h s w hs
theorem parse_at (s : ByteArray) (v : Option (BitVec 64)) (hv : mixParse s.data.toList = v) (hs : s.size ≤ maxLen) (w : World) :
    Calls Try.prog 13 #[.string s] w fun e w' => e = .returned (.tuple #[.int .u64 (v.getD 0#64).toNat, .bool v.isSome]) ∧ w = w' := by
  subst hv; exact parse_any s w hs
set_option maxHeartbeats 1000000 in
theorem alive_any (w : World) :
    Calls Try.prog 9 #[] w fun e w' => e = .returned (.bool true) ∧ Below w.heap.size w w' := by
  go_enter Try.func9, Try.ntmps9
  go_wp2_with fail
  refine (parse_at _ none (by decide +kernel) (by decide +kernel) _).mono ?_
  rintro e w' ⟨rfl, rfl⟩
  go_wp2_with fail
  refine (text_at _ 1#64 [97, 97, 97, 97, 97, 97, 97, 97, 97, 97, 97, 97, 98] (by simp) (by decide +kernel) _).mono ?_
  rintro e w1 ⟨rfl, hb1⟩
  go_wp2_with fail
  refine (text_at _ 18446744073709551615#64 [112, 55, 55, 55, 55, 55, 55, 55, 55, 55, 55, 55, 55] (by simp) (by decide +kernel) _).mono ?_
  rintro e w2 ⟨rfl, hb2⟩
  go_wp2_with fail
  refine (start_at _ 0#64 _ (by simp) rfl _).mono ?_
  rintro e w' ⟨rfl, rfl⟩
  go_wp2_with fail
  refine (add_at _ 0#64 _ 15111065706836454659 (by simp) (by decide +kernel) (by decide) _).mono ?_
  rintro e w' ⟨rfl, rfl⟩
  go_wp2_with fail
  go_ret
  exact ⟨rfl, hb1.trans (hb2.mono hb1.size)⟩
set_option maxHeartbeats 1000000 in
theorem pieces_any (h : BitVec 64) (a b : ByteArray) (w : World) (ha : a.size ≤ maxLen) (hb : b.size ≤ maxLen) :
    Calls Try.prog 3 #[.int .u64 h.toNat, .string a, .string b] w fun e w' => e = .returned (.bool true) ∧ Below w.heap.size w w' := by
  unfold maxLen at ha hb
  by_cases h1 : 16384 < a.size
  · go_enter Try.func3, Try.ntmps3
    go_wp2_with fail
    refine (alive_any _).mono ?_
    rintro e w1 ⟨rfl, hb1⟩
    go_wp2
    go_ret
    exact ⟨rfl, hb1⟩
  · by_cases h2 : 16384 < b.size
    · go_enter Try.func3, Try.ntmps3
      go_wp2_with fail
      refine (alive_any _).mono ?_
      rintro e w1 ⟨rfl, hb1⟩
      go_wp2
      go_ret
      exact ⟨rfl, hb1⟩
    · have hsum : (a ++ b).size ≤ maxLen := by rw [ByteArray.size_append]; unfold maxLen; omega
      have hS := Lib.hid hsum; clear hsum
      go_enter Try.func3, Try.ntmps3
      go_wp2_with fail
      refine (alive_any _).mono ?_
      rintro e w1 ⟨rfl, hb1⟩
      go_wp2_with fail
      refine (add_any _ _ _ ha).mono ?_
      rintro e w' ⟨rfl, rfl⟩
      go_wp2_with fail
      refine (add_any _ _ _ hb).mono ?_
      rintro e w' ⟨rfl, rfl⟩
      go_wp2_with fail
      refine (add_at _ _ _ ((mixAdd (mixAdd h a.data.toList) b.data.toList).toNat) rfl (by simp [mixAdd_append]) hS.out _).mono ?_
      rintro e w' ⟨rfl, rfl⟩
      go_wp2_with fail
      refine (add_at _ h _ h.toNat rfl rfl (by decide) _).mono ?_
      rintro e w' ⟨rfl, rfl⟩
      go_wp2
      go_ret
      exact ⟨rfl, hb1⟩
theorem eq_bv (a b : BitVec 64) : ((a.toNat : Int) == (b.toNat : Int)) = (a == b) := by
  rw [Bool.eq_iff_iff]
  simp only [beq_iff_eq]
  exact ⟨fun h => BitVec.eq_of_toNat_eq (by omega), fun h => by rw [h]⟩
theorem iff_beq {a b c d : BitVec 64} (h : a = b ↔ c = d) : ((((a.toNat : Int) == (b.toNat : Int))) == ((c.toNat : Int) == (d.toNat : Int))) = true := by
  rw [eq_bv, eq_bv, beq_iff_eq, Bool.eq_iff_iff]
  simpa using h
set_option maxHeartbeats 1000000 in
theorem seeds_any (g h : BitVec 64) (s : ByteArray) (w : World) (ha : s.size ≤ maxLen) :
    Calls Try.prog 4 #[.int .u64 g.toNat, .int .u64 h.toNat, .string s] w fun e w' => e = .returned (.bool true) ∧ Below w.heap.size w w' := by
  unfold maxLen at ha
  have h1 := iff_beq (a := mixAdd g s.data.toList) (b := mixAdd h s.data.toList) (c := g) (d := h) ⟨add_list_inj _ _ _, fun e => by rw [e]⟩
  have h2 := iff_beq (a := mixStart g) (b := mixStart h) (c := g) (d := h) ⟨start_inj _ _, fun e => by rw [e]⟩
  by_cases hl : 16384 < s.size
  · clear h1 h2
    go_enter Try.func4, Try.ntmps4
    go_wp2_with fail
    refine (alive_any _).mono ?_
    rintro e w1 ⟨rfl, hb1⟩
    go_wp2
    go_ret
    exact ⟨rfl, hb1⟩
  · go_enter Try.func4, Try.ntmps4
    go_wp2_with fail
    refine (alive_any _).mono ?_
    rintro e w1 ⟨rfl, hb1⟩
    go_wp2_with fail
    refine (add_any _ _ _ ha).mono ?_
    rintro e w' ⟨rfl, rfl⟩
    go_wp2_with fail
    refine (add_any _ _ _ ha).mono ?_
    rintro e w' ⟨rfl, rfl⟩
    go_wp2_with fail
    refine (start_any _ _).mono ?_
    rintro e w' ⟨rfl, rfl⟩
    go_wp2_with fail
    refine (start_any _ _).mono ?_
    rintro e w' ⟨rfl, rfl⟩
    go_wp2
    go_ret
    exact ⟨rfl, hb1⟩
set_option maxHeartbeats 1000000 in
theorem narrows_any (h : BitVec 64) (a b : Int) (w : World) :
    Calls Try.prog 7 #[.int .u64 h.toNat, .int .i64 a, .int .i64 b] w fun e w' => e = .returned (.bool true) ∧ Below w.heap.size w w' := by
  have hle : (mixNarrow h a).toNat ≤ h.toNat := narrow_le h a
  have hnn := narrow_narrow h a b
  by_cases hab : a ≤ b
  · rw [Int.min_eq_left hab] at hnn
    have HNN := Lib.hid hnn; clear hnn
    go_enter Try.func7, Try.ntmps7
    go_wp2_with fail
    refine (alive_any _).mono ?_
    rintro e w1 ⟨rfl, hb1⟩
    go_wp2_with fail
    refine (narrow_any _ _ _).mono ?_
    rintro e w' ⟨rfl, rfl⟩
    go_wp2_with fail
    refine (narrow_any _ _ _).mono ?_
    rintro e w' ⟨rfl, rfl⟩
    rw [HNN.out]
    go_wp2_with fail
    refine (narrow_any _ _ _).mono ?_
    rintro e w' ⟨rfl, rfl⟩
    go_wp2_with fail
    refine (narrow_any _ _ _).mono ?_
    rintro e w' ⟨rfl, rfl⟩
    go_wp2_with fail
    refine (narrow_any _ _ _).mono ?_
    rintro e w' ⟨rfl, rfl⟩
    rw [narrow_same]
    go_wp2_with fail
    refine (narrow_any _ _ _).mono ?_
    rintro e w' ⟨rfl, rfl⟩
    go_wp2_with fail
    refine (narrow_any _ _ _).mono ?_
    rintro e w' ⟨rfl, rfl⟩
    go_wp2
    go_ret
    exact ⟨rfl, hb1⟩
  · rw [Int.min_eq_right (by omega)] at hnn
    have HNN := Lib.hid hnn; clear hnn
    go_enter Try.func7, Try.ntmps7
    go_wp2_with fail
    refine (alive_any _).mono ?_
    rintro e w1 ⟨rfl, hb1⟩
    go_wp2_with fail
    refine (narrow_any _ _ _).mono ?_
    rintro e w' ⟨rfl, rfl⟩
    go_wp2_with fail
    refine (narrow_any _ _ _).mono ?_
    rintro e w' ⟨rfl, rfl⟩
    rw [HNN.out]
    go_wp2_with fail
    refine (narrow_any _ _ _).mono ?_
    rintro e w' ⟨rfl, rfl⟩
    go_wp2_with fail
    refine (narrow_any _ _ _).mono ?_
    rintro e w' ⟨rfl, rfl⟩
    go_wp2_with fail
    refine (narrow_any _ _ _).mono ?_
    rintro e w' ⟨rfl, rfl⟩
    rw [narrow_same]
    go_wp2_with fail
    refine (narrow_any _ _ _).mono ?_
    rintro e w' ⟨rfl, rfl⟩
    go_wp2_with fail
    refine (narrow_any _ _ _).mono ?_
    rintro e w' ⟨rfl, rfl⟩
    go_wp2
    go_ret
    exact ⟨rfl, hb1⟩
theorem text_size (h : BitVec 64) : (⟨(mixText h).toArray⟩ : ByteArray).size ≤ maxLen := by
  show (mixText h).toArray.size ≤ maxLen
  simp [mixText, maxLen]
set_option maxHeartbeats 1000000 in
theorem texts_any (h : BitVec 64) (s : ByteArray) (w : World) (ha : s.size ≤ maxLen) :
    Calls Try.prog 5 #[.int .u64 h.toNat, .string s] w fun e w' => e = .returned (.bool true) ∧ Below w.heap.size w w' := by
  unfold maxLen at ha
  by_cases hl : 16384 < s.size
  · go_enter Try.func5, Try.ntmps5
    go_wp2_with fail
    refine (alive_any _).mono ?_
    rintro e w1 ⟨rfl, hb1⟩
    go_wp2
    go_ret
    exact ⟨rfl, hb1⟩
  · have hpt := parse_text h
    obtain ⟨v, hv⟩ : ∃ v, v = mixParse s.data.toList := ⟨_, rfl⟩
    have hps := fun wx => parse_at s v hv.symm ha wx
    have hpr : ∀ wx, Calls Try.prog 15 #[.string s] wx fun e w' => e = .returned (.tuple #[.int .u64 (v.getD 0#64).toNat, .bool v.isSome]) ∧ wx = w' := by subst hv; exact fun wx => rparse_any s wx ha
    have HV := Lib.hid hv; have HPS := Lib.hid hps; have HPR := Lib.hid hpr; have HPT := Lib.hid hpt
    clear hv hps hpr hpt
    cases v with
    | none =>
      go_enter Try.func5, Try.ntmps5
      go_wp2_with fail
      refine (alive_any _).mono ?_
      rintro e w1 ⟨rfl, hb1⟩
      go_wp2_with fail
      refine (text_any _ _).mono ?_
      rintro e w2 ⟨rfl, hb2⟩
      go_wp2_with fail
      refine (parse_at _ _ HPT.out (text_size h) _).mono ?_
      rintro e w' ⟨rfl, rfl⟩
      go_wp2_with fail
      refine (rtext_any _ _).mono ?_
      rintro e w3 ⟨rfl, hb3⟩
      go_wp2_with fail
      refine (HPS.out _).mono ?_
      rintro e w' ⟨rfl, rfl⟩
      go_wp2_with fail
      refine (HPR.out _).mono ?_
      rintro e w' ⟨rfl, rfl⟩
      go_wp2_with fail
      go_ret
      exact ⟨rfl, (hb1.trans (hb2.mono hb1.size)).trans (hb3.mono (Nat.le_trans hb1.size hb2.size))⟩
    | some n =>
      have htp : (⟨(mixText n).toArray⟩ : ByteArray) = s := by
        rw [text_parse _ _ HV.out.symm]
      have HTP := Lib.hid htp; clear htp
      go_enter Try.func5, Try.ntmps5
      go_wp2_with fail
      refine (alive_any _).mono ?_
      rintro e w1 ⟨rfl, hb1⟩
      go_wp2_with fail
      refine (text_any _ _).mono ?_
      rintro e w2 ⟨rfl, hb2⟩
      go_wp2_with fail
      refine (parse_at _ _ HPT.out (text_size h) _).mono ?_
      rintro e w' ⟨rfl, rfl⟩
      go_wp2_with fail
      refine (rtext_any _ _).mono ?_
      rintro e w3 ⟨rfl, hb3⟩
      go_wp2_with fail
      refine (HPS.out _).mono ?_
      rintro e w' ⟨rfl, rfl⟩
      go_wp2_with fail
      refine (HPR.out _).mono ?_
      rintro e w' ⟨rfl, rfl⟩
      go_wp2_with fail
      refine (text_any _ _).mono ?_
      rintro e w4 ⟨rfl, hb4⟩
      rw [HTP.out]
      go_wp2_with fail
      go_ret
      exact ⟨rfl, ((hb1.trans (hb2.mono hb1.size)).trans (hb3.mono (Nat.le_trans hb1.size hb2.size))).trans (hb4.mono (Nat.le_trans hb1.size (Nat.le_trans hb2.size hb3.size)))⟩
set_option maxHeartbeats 1000000 in
theorem adds_any (h : BitVec 64) (s : ByteArray) (n : Int) (w : World) (ha : s.size ≤ maxLen) :
    Calls Try.prog 8 #[.int .u64 h.toNat, .string s, .int .i64 n] w fun e w' => e = .returned (.bool true) ∧ Below w.heap.size w w' := by
  unfold maxLen at ha
  by_cases hl : 16384 < s.size
  · go_enter Try.func8, Try.ntmps8
    go_wp2_with fail
    refine (alive_any _).mono ?_
    rintro e w1 ⟨rfl, hb1⟩
    go_wp2
    go_ret
    exact ⟨rfl, hb1⟩
  · go_enter Try.func8, Try.ntmps8
    go_wp2_with fail
    refine (alive_any _).mono ?_
    rintro e w1 ⟨rfl, hb1⟩
    go_wp2_with fail
    refine (start_any _ _).mono ?_
    rintro e w' ⟨rfl, rfl⟩
    go_wp2_with fail
    refine (rstart_any _ _).mono ?_
    rintro e w' ⟨rfl, rfl⟩
    go_wp2_with fail
    refine (add_any _ _ _ ha).mono ?_
    rintro e w' ⟨rfl, rfl⟩
    go_wp2_with fail
    refine (radd_any _ _ _ ha).mono ?_
    rintro e w' ⟨rfl, rfl⟩
    go_wp2_with fail
    refine (of_any _ _ ha).mono ?_
    rintro e w' ⟨rfl, rfl⟩
    go_wp2_with fail
    refine (rof_any _ _ ha).mono ?_
    rintro e w' ⟨rfl, rfl⟩
    go_wp2_with fail
    refine (narrow_any _ _ _).mono ?_
    rintro e w' ⟨rfl, rfl⟩
    go_wp2_with fail
    refine (rnarrow_any _ _ _).mono ?_
    rintro e w' ⟨rfl, rfl⟩
    go_wp2
    go_ret
    exact ⟨rfl, hb1⟩
theorem xor_u8 (a b : UInt8) : bits BinOp.xor IntKind.u8 (a.toNat : Int) (b.toNat : Int) = ((a ^^^ b).toNat : Int) := by
  have e : ∀ a : UInt8, (BitVec.ofInt IntKind.u8.bits (a.toNat : Int)) = a.toBitVec := by
    intro a
    show (BitVec.ofInt 8 (a.toNat : Int)) = a.toBitVec
    rw [BitVec.ofInt_natCast]
    apply BitVec.eq_of_toNat_eq
    rw [BitVec.toNat_ofNat]
    exact Nat.mod_eq_of_lt a.toNat_lt
  unfold bits
  simp only []
  rw [e, e]
  have := (a ^^^ b).toNat_lt
  simp only [IntKind.wrap, IntKind.bits, IntKind.signed]
  show ((a.toBitVec ^^^ b.toBitVec).toNat : Int) % 256 = _
  rw [show (a.toBitVec ^^^ b.toBitVec).toNat = (a ^^^ b).toNat from rfl]
  omega
theorem xor_zero (a x : UInt8) : a = a ^^^ x ↔ (x.toNat : Int) = 0 := by
  constructor
  · intro h
    have h2 := congrArg (fun y => a ^^^ y) h
    simp only [← UInt8.xor_assoc, UInt8.xor_self, UInt8.zero_xor] at h2
    rw [← h2]; rfl
  · intro h
    have : x = 0 := UInt8.toNat_inj.1 (by simp; omega)
    rw [this]; simp
theorem other_list (s O : ByteArray) (k : Nat) (c : UInt8) (hk : k < s.size) (hO : O = s.extract 0 k ++ ⟨#[c]⟩ ++ s.extract (k + 1) s.size) :
    s.data.toList = s.data.toList.take k ++ s[k] :: s.data.toList.drop (k + 1) ∧ O.data.toList = s.data.toList.take k ++ c :: s.data.toList.drop (k + 1) := by
  constructor
  · rw [← drop_cons s k hk, List.take_append_drop]
  · subst hO
    have hl : s.data.toList.length = s.size := by simp
    rw [ByteArray.data_append, ByteArray.data_append, ByteArray.data_extract, ByteArray.data_extract]
    simp
    exact List.take_of_length_le (by simp)
theorem beq_iff_of {p q : Bool} {P Q : Prop} (hp : p = true ↔ P) (hq : q = true ↔ Q) (h : P ↔ Q) : (p == q) = true := by
  cases p <;> cases q <;> simp_all
theorem tells_of (s O : ByteArray) (k : Nat) (x c : UInt8) (hk : k < s.size) (hc : c = s[k] ^^^ x) (hO : O = s.extract 0 k ++ ⟨#[c]⟩ ++ s.extract (k + 1) s.size) :
    ((((mixOf s.data.toList).toNat : Int) == ((mixOf O.data.toList).toNat : Int)) == ((x.toNat : Int) == 0)) = true := by
  obtain ⟨e1, e2⟩ := other_list s O k c hk hO
  refine beq_iff_of (by rw [eq_bv, beq_iff_eq]) (by rw [beq_iff_eq]) ?_
  rw [e1, e2, of_iff, hc]
  exact xor_zero _ _
theorem tells_add (s O : ByteArray) (k : Nat) (x c : UInt8) (hk : k < s.size) (hc : c = s[k] ^^^ x) (hO : O = s.extract 0 k ++ ⟨#[c]⟩ ++ s.extract (k + 1) s.size) (h : BitVec 64) :
    ((((mixAdd h s.data.toList).toNat : Int) == ((mixAdd h O.data.toList).toNat : Int)) == ((x.toNat : Int) == 0)) = true := by
  obtain ⟨e1, e2⟩ := other_list s O k c hk hO
  refine beq_iff_of (by rw [eq_bv, beq_iff_eq]) (by rw [beq_iff_eq]) ?_
  rw [e1, e2, change_iff, hc]
  exact xor_zero _ _
set_option maxHeartbeats 1000000 in
theorem tells_any (s : ByteArray) (n : Int) (x : UInt8) (w : World) (ha : s.size ≤ maxLen) :
    Calls Try.prog 6 #[.string s, .int .i64 n, .int .u8 x.toNat] w fun e w' => e = .returned (.bool true) ∧ Below w.heap.size w w' := by
  unfold maxLen at ha
  by_cases hl : 16384 < s.size
  · go_enter Try.func6, Try.ntmps6
    go_wp2_with fail
    refine (alive_any _).mono ?_
    rintro e w1 ⟨rfl, hb1⟩
    go_wp2
    go_ret
    exact ⟨rfl, hb1⟩
  · by_cases h0 : n < 0
    · go_enter Try.func6, Try.ntmps6
      go_wp2_with fail
      refine (alive_any _).mono ?_
      rintro e w1 ⟨rfl, hb1⟩
      go_wp2
      go_ret
      exact ⟨rfl, hb1⟩
    · obtain ⟨k, rfl⟩ : ∃ k : Nat, n = k := ⟨n.toNat, by omega⟩
      by_cases hk : k < s.size
      · go_enter Try.func6, Try.ntmps6
        go_wp2_with fail
        refine (alive_any _).mono ?_
        rintro e w1 ⟨rfl, hb1⟩
        obtain ⟨c, hc⟩ : ∃ c, c = s[k] ^^^ x := ⟨_, rfl⟩
        have hxx : bits BinOp.xor IntKind.u8 (s[k].toNat : Int) (x.toNat : Int) = (c.toNat : Int) := by rw [hc]; exact xor_u8 _ _
        have HC := Lib.hid hc; clear hc
        have hcv : ∀ wx : World, (convert 32 9 (.slice (some ⟨wx.heap.size, 0, none⟩) 1 1)).run Try.prog (wx.alloc (.cells #[.int .u8 c.toNat] 5)).drew = .ok (.string ⟨#[c]⟩) (wx.alloc (.cells #[.int .u8 c.toNat] 5)).drew := fun wx => conv_one wx.drew c _
        have hk1 : k + 1 ≤ s.size := by omega
        have hk2 : k ≤ s.size := by omega
        clear h0
        go_wp2_with fail
        go_region
        obtain ⟨O, hO⟩ : ∃ O, O = s.extract 0 k ++ ⟨#[c]⟩ ++ s.extract (k + 1) s.size := ⟨_, rfl⟩
        rw [← hO]
        have hOs : O.size ≤ maxLen := by
          rw [hO, ByteArray.size_append, ByteArray.size_append, ByteArray.size_extract, ByteArray.size_extract, show (⟨#[c]⟩ : ByteArray).size = 1 from rfl]
          unfold maxLen; omega
        have h1 := tells_of s O k x c hk HC.out hO
        have h2 := tells_add s O k x c hk HC.out hO 7#64
        have HO := Lib.hid hO; have HS := Lib.hid hOs; clear hO hOs hcv hxx
        go_wp2_with fail
        refine (of_any _ _ ha).mono ?_
        rintro e w' ⟨rfl, rfl⟩
        go_wp2_with fail
        refine (of_any _ _ HS.out).mono ?_
        rintro e w' ⟨rfl, rfl⟩
        go_wp2_with fail
        refine (add_at 7 7#64 _ _ (by simp) rfl ha _).mono ?_
        rintro e w' ⟨rfl, rfl⟩
        go_wp2_with fail
        refine (add_at 7 7#64 _ _ (by simp) rfl HS.out _).mono ?_
        rintro e w' ⟨rfl, rfl⟩
        go_wp2
        go_ret
        exact ⟨rfl, (hb1.alloc hb1.size _).drew⟩
      · go_enter Try.func6, Try.ntmps6
        go_wp2_with fail
        refine (alive_any _).mono ?_
        rintro e w1 ⟨rfl, hb1⟩
        go_wp2
        go_ret
        exact ⟨rfl, hb1⟩
end Go.Proofs.Ytppaedndppleiaa
