/- DERIVED. Plain laws of mix: each step is one to one; text and number; narrowing. -/
import Derived.Test.YtipindjchcmckaaMixMath
namespace Go.Proofs.Ytipindjchcmckaa
open Go.RowKit

theorem shl_inj (k : Nat) (hk : 0 < k) (a b : BitVec 64) (h : a ^^^ (a <<< k) = b ^^^ (b <<< k)) : a = b := by
  apply BitVec.eq_of_getLsbD_eq
  intro i
  induction i using Nat.strongRecOn with
  | _ i ih =>
    intro hi
    have hb := congrArg (fun x => x.getLsbD i) h
    simp only [BitVec.getLsbD_xor, BitVec.getLsbD_shiftLeft] at hb
    by_cases hik : i < k
    · simpa [hik] using hb
    · have := ih (i - k) (by omega) (by omega)
      rw [this] at hb
      simpa using hb
theorem shr_inj (k : Nat) (hk : 0 < k) (a b : BitVec 64) (h : a ^^^ (a >>> k) = b ^^^ (b >>> k)) : a = b := by
  have key : ∀ d i, 64 - i = d → a.getLsbD i = b.getLsbD i := by
    intro d
    induction d using Nat.strongRecOn with
    | _ d ih =>
      intro i hd
      have hb := congrArg (fun x => x.getLsbD i) h
      simp only [BitVec.getLsbD_xor, BitVec.getLsbD_ushiftRight] at hb
      by_cases hi : 64 ≤ i
      · rw [BitVec.getLsbD_of_ge _ _ hi, BitVec.getLsbD_of_ge _ _ hi]
      · have := ih (64 - (k + i)) (by omega) (k + i) rfl
        rw [this] at hb
        simpa using hb
  apply BitVec.eq_of_getLsbD_eq
  intro i _
  exact key _ i rfl
theorem add_inj (a b c : BitVec 64) (h : a + c = b + c) : a = b := by
  have := congrArg (fun x => x - c) h
  simpa using this
theorem xor_inj (a b c : BitVec 64) (h : a ^^^ c = b ^^^ c) : a = b := by
  have := congrArg (fun x => x ^^^ c) h
  simpa [BitVec.xor_assoc] using this
theorem xor_inj' (a b c : BitVec 64) (h : c ^^^ a = c ^^^ b) : a = b := by
  rw [BitVec.xor_comm c a, BitVec.xor_comm c b] at h
  exact xor_inj a b c h
theorem mixStep_def (h : BitVec 64) (c : UInt8) : mixStep h c = ((((h ^^^ BitVec.ofNat 64 c.toNat) ^^^ ((h ^^^ BitVec.ofNat 64 c.toNat) <<< 13)) ^^^ (((h ^^^ BitVec.ofNat 64 c.toNat) ^^^ ((h ^^^ BitVec.ofNat 64 c.toNat) <<< 13)) >>> 7)) ^^^
    ((((h ^^^ BitVec.ofNat 64 c.toNat) ^^^ ((h ^^^ BitVec.ofNat 64 c.toNat) <<< 13)) ^^^ (((h ^^^ BitVec.ofNat 64 c.toNat) ^^^ ((h ^^^ BitVec.ofNat 64 c.toNat) <<< 13)) >>> 7)) <<< 17)) + BitVec.ofNat 64 15111065706836454659 := rfl
theorem step_core (g h : BitVec 64) (c d : UInt8) (e : mixStep g c = mixStep h d) : g ^^^ BitVec.ofNat 64 c.toNat = h ^^^ BitVec.ofNat 64 d.toNat := by
  rw [mixStep_def, mixStep_def] at e
  generalize BitVec.ofNat 64 15111065706836454659 = z at e
  exact shl_inj 13 (by decide) _ _ (shr_inj 7 (by decide) _ _ (shl_inj 17 (by decide) _ _ (add_inj _ _ _ e)))
theorem step_inj (g h : BitVec 64) (c : UInt8) (e : mixStep g c = mixStep h c) : g = h := xor_inj _ _ _ (step_core g h c c e)
theorem step_inj' (h : BitVec 64) (c d : UInt8) (e : mixStep h c = mixStep h d) : c = d := by
  have := xor_inj' _ _ _ (step_core h h c d e)
  have h2 := congrArg BitVec.toNat this
  rw [BitVec.toNat_ofNat, BitVec.toNat_ofNat] at h2
  have hc := c.toNat_lt
  have hd := d.toNat_lt
  exact UInt8.toNat_inj.1 (by omega)
theorem mixAdd_cons (h : BitVec 64) (c : UInt8) (r : List UInt8) : mixAdd h (c :: r) = mixAdd (mixStep h c) r := by unfold mixAdd; rw [List.foldl_cons]
theorem add_list_inj (l : List UInt8) (g h : BitVec 64) (e : mixAdd g l = mixAdd h l) : g = h := by
  induction l generalizing g h with
  | nil => exact e
  | cons c r ih =>
    rw [mixAdd_cons, mixAdd_cons] at e
    exact step_inj _ _ c (ih _ _ e)
theorem start_inj (g h : BitVec 64) (e : mixStart g = mixStart h) : g = h := xor_inj _ _ _ e
/-- One byte changed, whatever stands ahead and behind. -/
theorem change_iff (h : BitVec 64) (p q : List UInt8) (c d : UInt8) : mixAdd h (p ++ c :: q) = mixAdd h (p ++ d :: q) ↔ c = d := by
  constructor
  · intro e
    rw [mixAdd_append, mixAdd_append, mixAdd_cons, mixAdd_cons] at e
    exact step_inj' _ _ _ (add_list_inj q (mixStep (mixAdd h p) c) (mixStep (mixAdd h p) d) e)
  · rintro rfl; rfl
theorem of_iff (p q : List UInt8) (c d : UInt8) : mixOf (p ++ c :: q) = mixOf (p ++ d :: q) ↔ c = d := by
  unfold mixOf
  rw [show (p ++ d :: q).length = (p ++ c :: q).length from by simp]
  exact change_iff (mixStart (BitVec.ofNat 64 (p ++ c :: q).length)) p q c d

/-! ### Narrow -/
theorem narrow_narrow (h : BitVec 64) (a b : Int) : mixNarrow (mixNarrow h a) b = mixNarrow h (min a b) := by
  apply BitVec.eq_of_toNat_eq
  rw [mixNarrow_nat, mixNarrow_nat, mixNarrow_nat]
  by_cases hab : a ≤ b
  · rw [Int.min_eq_left hab]
    apply Nat.mod_eq_of_lt
    refine Nat.lt_of_lt_of_le (Nat.mod_lt _ (Nat.two_pow_pos _)) (Nat.pow_le_pow_right (by decide) ?_)
    unfold narrowBits; omega
  · rw [Int.min_eq_right (by omega)]
    apply Nat.mod_mod_of_dvd
    exact Nat.pow_dvd_pow 2 (by unfold narrowBits; omega)
theorem narrow_same (h : BitVec 64) (a : Int) : mixNarrow (mixNarrow h a) a = mixNarrow h a := by rw [narrow_narrow, Int.min_self]
theorem narrow_le (h : BitVec 64) (a : Int) : (mixNarrow h a).toNat ≤ h.toNat := by rw [mixNarrow_nat]; exact Nat.mod_le _ _

/-! ### Text and Parse -/
theorem letter_index (n : Nat) (hn : n < 32) : Lib.indexByte mixLetters (mixLetter n) = n := by
  have h : ∀ n : Fin 32, Lib.indexByte mixLetters (mixLetter n.val) = (n.val : Int) := by decide +kernel
  exact h ⟨n, hn⟩
theorem or_nat (h : BitVec 64) (n : Nat) (hn : n < 32) (hh : h.toNat < 2 ^ 59) : ((h <<< 5) ||| BitVec.ofNat 64 n).toNat = h.toNat * 32 + n := by
  rw [shl_or_add h n hn, BitVec.toNat_add, BitVec.toNat_shiftLeft, BitVec.toNat_ofNat, Nat.shiftLeft_eq]
  omega
theorem parse_part (h : BitVec 64) : ∀ k, k ≤ 13 → parseGo (13 - k) (if k = 13 then 0#64 else h >>> (5 * k)) (txtPart h k) = some h
  | 0, _ => by simp [txtPart, parseGo]
  | k + 1, hk => by
    have hx := h.isLt
    have hlt : (h >>> (5 * k)).toNat % 32 < 32 := Nat.mod_lt _ (by decide)
    have ih := parse_part h k (by omega)
    rw [if_neg (by omega)] at ih
    have hsh : (h >>> (5 * (k + 1))) = (h >>> (5 * k)) >>> 5 := by rw [← BitVec.shiftRight_add]; rfl
    have hq : (h >>> (5 * (k + 1))).toNat = (h >>> (5 * k)).toNat / 32 := by
      rw [hsh, BitVec.toNat_ushiftRight, Nat.shiftRight_eq_div_pow]
    have hy := (h >>> (5 * k)).isLt
    have hnext : ((if k + 1 = 13 then 0#64 else h >>> (5 * (k + 1))) <<< 5) ||| BitVec.ofNat 64 ((h >>> (5 * k)).toNat % 32) = h >>> (5 * k) := by
      apply BitVec.eq_of_toNat_eq
      by_cases h13 : k + 1 = 13
      · rw [if_pos h13, or_nat _ _ hlt (by decide)]
        obtain rfl : k = 12 := by omega
        have : (h >>> (5 * 12)).toNat = h.toNat / 2 ^ 60 := by rw [BitVec.toNat_ushiftRight, Nat.shiftRight_eq_div_pow]
        rw [this]
        simp
        omega
      · rw [if_neg h13, or_nat _ _ hlt (by omega), hq]
        omega
    rw [txtPart, parseGo]
    have hix : Lib.indexByte mixLetters (mixDigit h k) = ((h >>> (5 * k)).toNat % 32 : Nat) := letter_index _ hlt
    rw [hix, if_neg, ofInt_nat, hnext]
    · rw [show 13 - (k + 1) + 1 = 13 - k from by omega]; exact ih
    · rintro (h1 | ⟨h1, h2⟩)
      · omega
      · obtain rfl : k = 12 := by omega
        have : (h >>> (5 * 12)).toNat = h.toNat / 2 ^ 60 := by rw [BitVec.toNat_ushiftRight, Nat.shiftRight_eq_div_pow]
        omega
theorem parse_text (h : BitVec 64) : mixParse (mixText h) = some h := by
  unfold mixParse
  rw [if_pos (by simp [mixText]), ← txtPart_all]
  exact parse_part h 13 (Nat.le_refl _)
theorem go_back : ∀ (l : List UInt8) (i : Nat) (h n : BitVec 64), l.length ≤ 12 → (h.toNat + 1) * 32 ^ l.length ≤ 2 ^ 64 → parseGo (i + 1) h l = some n →
    n.toNat / 32 ^ l.length = h.toNat ∧ txtPart n l.length = l
  | [], _, h, n, _, _, e => by
    simp [parseGo] at e; subst e; simp [txtPart]
  | c :: r, i, h, n, hl, hb, e => by
    rw [parseGo] at e
    split at e
    · cases e
    · rename_i hc
      rcases index_cases c with ⟨h1, _⟩ | ⟨m, hm, h1, h2, _⟩
      · omega
      · rw [h1, ofInt_nat] at e
        simp only [List.length_cons] at hb hl ⊢
        have hp : 0 < 32 ^ r.length := Nat.pow_pos (by decide)
        have hb2 : (h.toNat + 1) * 32 * 32 ^ r.length ≤ 2 ^ 64 := by
          rw [Nat.pow_succ, Nat.mul_comm (32 ^ r.length) 32, ← Nat.mul_assoc] at hb; exact hb
        have hh : (h.toNat + 1) * 32 ≤ 2 ^ 64 := Nat.le_trans (Nat.le_mul_of_pos_right _ hp) hb2
        have hor := or_nat h m hm (by omega)
        have hb3 : (((h <<< 5) ||| BitVec.ofNat 64 m).toNat + 1) * 32 ^ r.length ≤ 2 ^ 64 :=
          Nat.le_trans (Nat.mul_le_mul_right _ (by rw [hor]; omega)) hb2
        have ih := go_back r (i + 1) _ n (by omega) hb3 e
        rw [hor] at ih
        refine ⟨?_, ?_⟩
        · rw [Nat.pow_succ, ← Nat.div_div_eq_div_mul, ih.1]; omega
        · rw [txtPart, ih.2]
          congr 1
          unfold mixDigit
          rw [BitVec.toNat_ushiftRight, Nat.shiftRight_eq_div_pow, show 2 ^ (5 * r.length) = 32 ^ r.length from by rw [Nat.pow_mul], ih.1]
          rw [show (h.toNat * 32 + m) % 32 = m from by omega]
          exact h2
theorem text_parse (l : List UInt8) (n : BitVec 64) (e : mixParse l = some n) : mixText n = l := by
  unfold mixParse at e
  split at e
  · rename_i hl
    match l, hl, e with
    | c :: r, hl, e =>
      simp only [List.length_cons] at hl
      have hr : r.length = 12 := by omega
      rw [parseGo] at e
      split at e
      · cases e
      · rename_i hc
        rcases index_cases c with ⟨h1, _⟩ | ⟨m, hm, h1, h2, _⟩
        · omega
        · rw [h1, ofInt_nat] at e
          have hor := or_nat 0#64 m hm (by decide)
          simp only [BitVec.toNat_zero, Nat.zero_mul, Nat.zero_add] at hor
          have hm15 : m ≤ 15 := by omega
          have ih := go_back r 0 _ n (by omega) (by rw [hor, hr]; exact Nat.le_trans (Nat.mul_le_mul_right _ (show m + 1 ≤ 16 by omega)) (by decide)) e
          rw [hor, hr] at ih
          rw [← txtPart_all, txtPart, ih.2]
          congr 1
          unfold mixDigit
          rw [BitVec.toNat_ushiftRight, Nat.shiftRight_eq_div_pow, show 2 ^ (5 * 12) = 32 ^ 12 from by decide, ih.1, Nat.mod_eq_of_lt hm]
          exact h2
  · cases e
end Go.Proofs.Ytipindjchcmckaa
