/- DERIVED. Plain laws of the numbers of bytes (mix): no program in sight. -/
import Derived.Laws.Entries
import Derived.Laws.Bits64
import Derived.WalkKit
import Derived.Lib.Bytealg
namespace Go.Proofs.Ytipindjchcmckaa
open Go.RowKit

theorem bv_small (a : BitVec 64) : 0 ≤ (a.toNat : Int) ∧ (a.toNat : Int) < 18446744073709551616 := ⟨by omega, by have := a.isLt; omega⟩
theorem u64_of (x : Int) (h : (Lit.int .u64 x).wf = true) : ∃ a : BitVec 64, x = (a.toNat : Int) := by
  have hb : 0 ≤ x ∧ x ≤ 18446744073709551615 := by simpa [Lit.wf, IntKind.min, IntKind.max, IntKind.bits, IntKind.signed] using h
  exact ⟨BitVec.ofInt 64 x, by rw [BitVec.toNat_ofInt]; omega⟩
theorem bv_xor (a b : BitVec 64) : bits .xor .u64 (a.toNat : Int) (b.toNat : Int) = ((a ^^^ b).toNat : Int) := by
  rw [bits_xor_u64_nat _ _ a.isLt b.isLt, BitVec.toNat_xor]
theorem bv_wrap (n : Nat) : IntKind.u64.wrap (n : Int) = ((BitVec.ofNat 64 n).toNat : Int) := by
  rw [IntKind.wrap_u64, BitVec.toNat_ofNat]; omega
theorem bv_shl (a : BitVec 64) (k : Nat) (c : Int) (h : c = ((2 ^ k : Nat) : Int)) : IntKind.u64.wrap ((a.toNat : Int) * c) = ((a <<< k).toNat : Int) := by
  subst h
  rw [IntKind.wrap_u64, BitVec.toNat_shiftLeft, Nat.shiftLeft_eq, Int.natCast_emod, Int.natCast_mul]; rfl
theorem bv_shr (a : BitVec 64) (k : Nat) (c : Int) (h : c = ((2 ^ k : Nat) : Int)) : (a.toNat : Int) / c = ((a >>> k).toNat : Int) := by
  subst h
  rw [BitVec.toNat_ushiftRight, Nat.shiftRight_eq_div_pow, Int.natCast_ediv]
theorem bv_quo (a : BitVec 64) (k : Nat) (c : Int) (h : c = ((2 ^ k : Nat) : Int)) : IntKind.u64.wrap ((a.toNat : Int).tdiv c) = ((a >>> k).toNat : Int) := by
  have h0 := a.isLt
  have h1 := (a >>> k).isLt
  rw [Int.tdiv_eq_ediv_of_nonneg (by omega), bv_shr a k c h, IntKind.wrap_u64]
  omega
theorem bv_add (a : BitVec 64) (n : Nat) (c : Int) (h : c = (n : Int)) : IntKind.u64.wrap ((a.toNat : Int) + c) = ((a + BitVec.ofNat 64 n).toNat : Int) := by
  subst h
  rw [IntKind.wrap_u64, BitVec.toNat_add, BitVec.toNat_ofNat]; omega

/-- One byte more. -/
def mixStep (h : BitVec 64) (c : UInt8) : BitVec 64 :=
  ((((h ^^^ BitVec.ofNat 64 c.toNat) ^^^ ((h ^^^ BitVec.ofNat 64 c.toNat) <<< 13)) ^^^ (((h ^^^ BitVec.ofNat 64 c.toNat) ^^^ ((h ^^^ BitVec.ofNat 64 c.toNat) <<< 13)) >>> 7)) ^^^
    ((((h ^^^ BitVec.ofNat 64 c.toNat) ^^^ ((h ^^^ BitVec.ofNat 64 c.toNat) <<< 13)) ^^^ (((h ^^^ BitVec.ofNat 64 c.toNat) ^^^ ((h ^^^ BitVec.ofNat 64 c.toNat) <<< 13)) >>> 7)) <<< 17)) + BitVec.ofNat 64 15111065706836454659
def mixAdd (h : BitVec 64) (l : List UInt8) : BitVec 64 := l.foldl mixStep h
theorem mixAdd_snoc (h : BitVec 64) (l : List UInt8) (c : UInt8) : mixAdd h (l ++ [c]) = mixStep (mixAdd h l) c := by simp [mixAdd]
theorem mixAdd_append (h : BitVec 64) (l m : List UInt8) : mixAdd h (l ++ m) = mixAdd (mixAdd h l) m := by simp [mixAdd]
theorem mixAdd_take (h : BitVec 64) (s : ByteArray) (k : Nat) (hk : k < s.size) :
    mixAdd h (s.data.toList.take (k + 1)) = mixStep (mixAdd h (s.data.toList.take k)) s[k] := by
  rw [← mixAdd_snoc]
  congr 1
  rw [List.take_succ_eq_append_getElem (by simpa using hk)]; rfl
/-- The start. -/
def mixStart (g : BitVec 64) : BitVec 64 := g ^^^ 0x9e3779b97f4a7c15#64
def mixOf (l : List UInt8) : BitVec 64 := mixAdd (mixStart (BitVec.ofNat 64 l.length)) l

def mixLetters : List UInt8 := [97, 98, 99, 100, 101, 102, 103, 104, 105, 106, 107, 108, 109, 110, 111, 112, 113, 114, 115, 116, 117, 118, 119, 120, 121, 122, 50, 51, 52, 53, 54, 55]
def mixLetter (n : Nat) : UInt8 := mixLetters.getD n 0
/-- The digit at place j of 13, from the right. -/
def mixDigit (h : BitVec 64) (j : Nat) : UInt8 := mixLetter ((h >>> (5 * j)).toNat % 32)
def mixText (h : BitVec 64) : List UInt8 := (List.range 13).map fun i => mixDigit h (12 - i)
def txtCells (h : BitVec 64) : Nat → Array Value
  | 0 => #[.int .u8 0, .int .u8 0, .int .u8 0, .int .u8 0, .int .u8 0, .int .u8 0, .int .u8 0, .int .u8 0, .int .u8 0, .int .u8 0, .int .u8 0, .int .u8 0, .int .u8 0]
  | k + 1 => (txtCells h k).setIfInBounds (12 - k) (.int .u8 (mixDigit h k).toNat)
theorem txtCells_size (h : BitVec 64) : ∀ k, (txtCells h k).size = 13
  | 0 => rfl
  | k + 1 => by simp [txtCells, txtCells_size h k]
theorem txtCells_all (h : BitVec 64) : txtCells h 13 = ((mixText h).map fun c => Value.int .u8 (c.toNat : Int)).toArray := by
  simp [txtCells, mixText, List.range, List.range.loop]

/-! ### Parse, Narrow -/
def parseGo (i : Nat) (h : BitVec 64) : List UInt8 → Option (BitVec 64)
  | [] => some h
  | c :: r => if Lib.indexByte mixLetters c < 0 ∨ (i = 0 ∧ 15 < Lib.indexByte mixLetters c) then none else parseGo (i + 1) ((h <<< 5) ||| BitVec.ofInt 64 (Lib.indexByte mixLetters c)) r
def mixParse (l : List UInt8) : Option (BitVec 64) := if l.length = 13 then parseGo 0 0#64 l else none
def narrowBits (n : Int) : Nat := (min 64 (max n 0)).toNat
def mixNarrow (h : BitVec 64) (n : Int) : BitVec 64 := BitVec.ofNat 64 (h.toNat % 2 ^ narrowBits n)
theorem mixNarrow_nat (h : BitVec 64) (n : Int) : (mixNarrow h n).toNat = h.toNat % 2 ^ narrowBits n := by
  unfold mixNarrow
  rw [BitVec.toNat_ofNat]
  exact Nat.mod_eq_of_lt (Nat.lt_of_le_of_lt (Nat.mod_le _ _) h.isLt)

theorem and_mask (x : BitVec 64) (m k : Nat) (hm : m = 2 ^ k - 1) (hk : k ≤ 64) : bits BinOp.and IntKind.u64 (x.toNat : Int) (m : Int) = ((x.toNat % 2 ^ k : Nat) : Int) := by
  subst hm
  have hx := x.isLt
  have h2 : (2 : Nat) ^ k ≤ 2 ^ 64 := Nat.pow_le_pow_right (by decide) hk
  have e1 : (BitVec.ofInt IntKind.u64.bits (x.toNat : Int)).toNat = x.toNat := by show (BitVec.ofInt 64 (x.toNat : Int)).toNat = x.toNat; rw [BitVec.ofInt_natCast, BitVec.toNat_ofNat]; exact Nat.mod_eq_of_lt hx
  have e2 : (BitVec.ofInt IntKind.u64.bits ((2 ^ k - 1 : Nat) : Int)).toNat = 2 ^ k - 1 := by
    show (BitVec.ofInt 64 ((2 ^ k - 1 : Nat) : Int)).toNat = 2 ^ k - 1
    rw [BitVec.ofInt_natCast, BitVec.toNat_ofNat]; exact Nat.mod_eq_of_lt (by have := Nat.two_pow_pos k; omega)
  unfold bits
  simp only []
  rw [BitVec.toNat_and, e1, e2, Nat.and_two_pow_sub_one_eq_mod, IntKind.wrap_u64]
  have : x.toNat % 2 ^ k ≤ x.toNat := Nat.mod_le _ _
  omega
theorem and31 (x : BitVec 64) : bits BinOp.and IntKind.u64 (x.toNat : Int) 31 = ((x.toNat % 32 : Nat) : Int) := and_mask x 31 5 (by decide) (by decide)
theorem shr5 (h : BitVec 64) (k : Nat) : ((h >>> (5 * k)).toNat : Int) / 32 = ((h >>> (5 * (k + 1))).toNat : Int) := by
  rw [bv_shr _ 5 32 (by decide)]
  congr 2
theorem letter_at (m : Nat) (hm : m < 32) : (⟨#[97, 98, 99, 100, 101, 102, 103, 104, 105, 106, 107, 108, 109, 110, 111, 112, 113, 114, 115, 116, 117, 118, 119, 120, 121, 122, 50, 51, 52, 53, 54, 55]⟩ : ByteArray)[m]? = some (mixLetter m) := by
  have h : ∀ m : Fin 32, (⟨#[97, 98, 99, 100, 101, 102, 103, 104, 105, 106, 107, 108, 109, 110, 111, 112, 113, 114, 115, 116, 117, 118, 119, 120, 121, 122, 50, 51, 52, 53, 54, 55]⟩ : ByteArray)[m.val]? = some (mixLetter m.val) := by decide
  exact h ⟨m, hm⟩
theorem letter_get (m : Nat) (hm : m < 32) (hb : m < (⟨#[97, 98, 99, 100, 101, 102, 103, 104, 105, 106, 107, 108, 109, 110, 111, 112, 113, 114, 115, 116, 117, 118, 119, 120, 121, 122, 50, 51, 52, 53, 54, 55]⟩ : ByteArray).size) :
    (⟨#[97, 98, 99, 100, 101, 102, 103, 104, 105, 106, 107, 108, 109, 110, 111, 112, 113, 114, 115, 116, 117, 118, 119, 120, 121, 122, 50, 51, 52, 53, 54, 55]⟩ : ByteArray)[m] = mixLetter m := by
  exact Option.some.inj ((getElem?_pos _ m hb).symm.trans (letter_at m hm))
theorem letter_cases (m : Nat) (hm : m < 32) : ((mixLetter m).toNat : Int) = if 25 < m then (m : Int) - 26 + 50 else m + 97 := by
  have h : ∀ m : Fin 32, ((mixLetter m.val).toNat : Int) = if 25 < m.val then (m.val : Int) - 26 + 50 else m.val + 97 := by decide
  exact h ⟨m, hm⟩
/-- What a letter stands for. -/
theorem index_cases (c : UInt8) : (Lib.indexByte mixLetters c = -1 ∧ ¬ (97 ≤ c.toNat ∧ c.toNat ≤ 122) ∧ ¬ (50 ≤ c.toNat ∧ c.toNat ≤ 55)) ∨
    ∃ n : Nat, n < 32 ∧ Lib.indexByte mixLetters c = n ∧ mixLetter n = c ∧ ((97 ≤ c.toNat ∧ c.toNat ≤ 122 ∧ n + 97 = c.toNat) ∨ (50 ≤ c.toNat ∧ c.toNat ≤ 55 ∧ n + 24 = c.toNat)) := by
  have h : ∀ k : Fin 256, (Lib.indexByte mixLetters (UInt8.ofNat k.val) = -1 ∧ ¬ (97 ≤ (UInt8.ofNat k.val).toNat ∧ (UInt8.ofNat k.val).toNat ≤ 122) ∧ ¬ (50 ≤ (UInt8.ofNat k.val).toNat ∧ (UInt8.ofNat k.val).toNat ≤ 55)) ∨
    ∃ n : Fin 32, Lib.indexByte mixLetters (UInt8.ofNat k.val) = (n.val : Int) ∧ mixLetter n.val = (UInt8.ofNat k.val) ∧ ((97 ≤ (UInt8.ofNat k.val).toNat ∧ (UInt8.ofNat k.val).toNat ≤ 122 ∧ n.val + 97 = (UInt8.ofNat k.val).toNat) ∨ (50 ≤ (UInt8.ofNat k.val).toNat ∧ (UInt8.ofNat k.val).toNat ≤ 55 ∧ n.val + 24 = (UInt8.ofNat k.val).toNat)) := by decide +kernel
  have hc : UInt8.ofNat c.toNat = c := by simp
  have := h ⟨c.toNat, c.toNat_lt⟩
  simp only [hc] at this
  rcases this with h1 | ⟨n, h1⟩
  · exact .inl h1
  · exact .inr ⟨n.val, n.isLt, h1⟩
theorem bv_or_small (x : BitVec 64) (n : Nat) (hn : n < 32) : bits BinOp.or IntKind.u64 (((x <<< 5)).toNat : Int) (n : Int) = (((x <<< 5) ||| BitVec.ofNat 64 n).toNat : Int) := by
  rw [show (n : Int) = ((BitVec.ofNat 64 n).toNat : Int) from by rw [BitVec.toNat_ofNat]; omega]
  have e1 : ∀ a : BitVec 64, (BitVec.ofInt IntKind.u64.bits (a.toNat : Int)) = a := by
    intro a
    show (BitVec.ofInt 64 (a.toNat : Int)) = a
    rw [BitVec.ofInt_natCast, BitVec.ofNat_toNat]; simp
  unfold bits
  simp only []
  rw [e1, e1, bv_wrap]
  congr 1
  exact Nat.mod_eq_of_lt (BitVec.isLt _)
theorem shl_or_add (h : BitVec 64) (n : Nat) (hn : n < 32) : (h <<< 5) ||| BitVec.ofNat 64 n = (h <<< 5) + BitVec.ofNat 64 n := by
  symm
  apply BitVec.add_eq_or_of_and_eq_zero
  apply BitVec.eq_of_getLsbD_eq
  intro i hi
  rw [BitVec.getLsbD_and, BitVec.getLsbD_shiftLeft, BitVec.getLsbD_ofNat]
  by_cases h5 : i < 5
  · simp [h5]
  · have : n.testBit i = false := Nat.testBit_lt_two_pow (Nat.lt_of_lt_of_le hn (show 32 ≤ 2 ^ i from Nat.le_trans (by decide : 32 ≤ 2 ^ 5) (Nat.pow_le_pow_right (by decide) (by omega))))
    simp [this]
theorem bv_add_small (h : BitVec 64) (n : Nat) (hn : n < 32) : IntKind.u64.wrap ((((h <<< 5)).toNat : Int) + (n : Int)) = (((h <<< 5) ||| BitVec.ofNat 64 n).toNat : Int) := by
  rw [shl_or_add h n hn, bv_add _ n _ rfl]
theorem ofInt_nat (n : Nat) : BitVec.ofInt 64 (n : Int) = BitVec.ofNat 64 n := BitVec.ofInt_natCast ..
theorem drop_cons (s : ByteArray) (k : Nat) (hk : k < s.size) : s.data.toList.drop k = s[k] :: s.data.toList.drop (k + 1) := by
  rw [List.drop_eq_getElem_cons (by simpa using hk)]; rfl
/-- The lowest k digits, the highest first. -/
def txtPart (h : BitVec 64) : Nat → List UInt8
  | 0 => []
  | k + 1 => mixDigit h k :: txtPart h k
theorem txtPart_all (h : BitVec 64) : txtPart h 13 = mixText h := by simp [txtPart, mixText, List.range, List.range.loop]
theorem narrow_round (h0 : BitVec 64) (k m p : Nat) (y : BitVec 64) (hk : k < 64) (hm : m = h0.toNat % 2 ^ k) (hp : p = 2 ^ k) (hy : y.toNat = h0.toNat / 2 ^ k) :
    IntKind.u64.wrap (↑m + IntKind.u64.wrap (↑y.toNat % 2 * ↑p)) = ((h0.toNat % 2 ^ (k + 1) : Nat) : Int) := by
  have hpow : (2 : Nat) ^ k ≤ 2 ^ 63 := Nat.pow_le_pow_right (by decide) (by omega)
  have hpos := Nat.two_pow_pos k
  have hx := h0.isLt
  have hdiv := Nat.div_add_mod h0.toNat (2 ^ k)
  rw [hy]
  generalize h0.toNat / 2 ^ k = q at *
  have hmlt : m < 2 ^ k := by rw [hm]; exact Nat.mod_lt _ hpos
  rw [← hm] at hdiv
  have key : h0.toNat % 2 ^ (k + 1) = m + q % 2 * 2 ^ k := by
    have e : h0.toNat = (m + q % 2 * 2 ^ k) + 2 ^ (k + 1) * (q / 2) := by
      rw [← hdiv, Nat.pow_succ]
      have : q = 2 * (q / 2) + q % 2 := (Nat.div_add_mod q 2).symm
      generalize q / 2 = a at *
      generalize q % 2 = b at *
      subst this
      rw [Nat.mul_add]
      have e1 : 2 ^ k * (2 * a) = 2 ^ k * 2 * a := by rw [Nat.mul_assoc]
      have e2 : 2 ^ k * b = b * 2 ^ k := Nat.mul_comm _ _
      omega
    rw [e, Nat.add_mul_mod_self_left]
    apply Nat.mod_eq_of_lt
    rw [Nat.pow_succ]
    have : q % 2 = 0 ∨ q % 2 = 1 := by omega
    rcases this with h | h <;> rw [h] <;> omega
  rw [key, IntKind.wrap_u64, IntKind.wrap_u64, hp]
  have : q % 2 = 0 ∨ q % 2 = 1 := by omega
  rcases this with h | h
  · have h' : (q : Int) % 2 = 0 := by omega
    rw [h, h']; simp only [Int.zero_mul, Nat.zero_mul]; omega
  · have h' : (q : Int) % 2 = 1 := by omega
    rw [h, h']; simp only [Int.one_mul, Nat.one_mul]
    omega
theorem half_step (h0 : BitVec 64) (k : Nat) (y : BitVec 64) (hy : y.toNat = h0.toNat / 2 ^ k) : ((y.toNat : Int) / 2 = (((y >>> 1).toNat : Nat) : Int)) ∧ (y >>> 1).toNat = h0.toNat / 2 ^ (k + 1) := by
  refine ⟨bv_shr y 1 2 (by decide), ?_⟩
  rw [BitVec.toNat_ushiftRight, Nat.shiftRight_eq_div_pow, hy, Nat.div_div_eq_div_mul, Nat.pow_succ]; rfl
theorem bit_step (k p : Nat) (_hk : k < 64) (hp : p = 2 ^ k) : IntKind.u64.wrap ((p : Int) * 2) = ((2 ^ (k + 1) % 18446744073709551616 : Nat) : Int) := by
  rw [IntKind.wrap_u64, hp, Nat.pow_succ]; omega
end Go.Proofs.Ytipindjchcmckaa
