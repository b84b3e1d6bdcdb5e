/- DERIVED. The rotation's walk. -/
import Derived.Test.YtjcimajkjnjdpaaDoorSortRot
namespace Go.Proofs.YtjcimajkjnjdpaaDoor
open Go.RowKit
set_option linter.unusedVariables false

def SwTo (g : Nat) (ps : List Pr) (a b m : Nat) (w : World) (e : Ending) (w' : World) : Prop := e = .returned (.tuple #[]) ∧ ∃ qs, FlRow w' g qs ∧ SwR qs ps a b m ∧ Ch [g] w w'
theorem swr_at (g c a b m n : Nat) (A B M : Int) (ps : List Pr) (w : World) (hA : A = a) (hB : B = b) (hM : M = m) (hr : FlRow w g ps) (hn : n = ps.length) (hm : n ≤ 1000000) (hab : a + m ≤ b) (hb : b + m ≤ n) :
    Calls Tryd.prog 87 #[.slice (some ⟨g, 0, none⟩) n c, .int .i64 A, .int .i64 B, .int .i64 M, .func (.func 16) #[] #[]] w (SwTo g ps a b m w) := by
  subst hA; subst hB; subst hM
  exact swr_any g c a b m n ps w hr hn hm hab hb
def RotTo (g : Nat) (ps : List Pr) (a m b : Nat) (w : World) (e : Ending) (w' : World) : Prop := e = .returned (.tuple #[]) ∧ ∃ qs, FlRow w' g qs ∧ RotR qs ps a m b ∧ Ch [g] w w'
set_option maxRecDepth 100000 in
set_option maxHeartbeats 4000000 in
theorem rot_any (g c a m b n : Nat) (ps : List Pr) (w : World) (hr : FlRow w g ps) (hn : n = ps.length) (hm : n ≤ 1000000) (ham : a < m) (hmb : m < b) (hb : b ≤ n) :
    Calls Tryd.prog 70 #[.slice (some ⟨g, 0, none⟩) n c, .int .i64 a, .int .i64 m, .int .i64 b, .func (.func 16) #[] #[]] w (RotTo g ps a m b w) := by
  have HR := Lib.hid hr; have HN := Lib.hid hn
  clear hr hn
  go_enter Tryd.func70, Tryd.ntmps70
  go_wp2_with fail
  go_loopw [10, 11] (fun x y wr => ∃ (i j : Nat) (qs : List Pr), x = .int .i64 i ∧ y = .int .i64 j ∧ 1 ≤ i ∧ 1 ≤ j ∧ a + i ≤ m ∧ m + j ≤ b ∧ Hid (FlRow wr g qs) ∧ Hid (n = qs.length) ∧ Hid (∀ rs, RotR rs qs (m - i) m (m + j) → RotR rs ps a m b) ∧ Hid (Ch [g] w wr)) (fun x y _ => (intOf x).toNat + (intOf y).toNat)
  case atStart => exact ⟨m - a, b - m, ps, by rw [show ((m - a : Nat) : Int) = (m : Int) - a by omega], by rw [show ((b - m : Nat) : Int) = (b : Int) - m by omega], by omega, by omega, by omega, by omega, HR.out, HN.out, fun rs h => by rw [show m - (m - a) = a by omega, show m + (b - m) = b by omega] at h; exact h, Ch.refl _ _⟩
  case round =>
    obtain ⟨i, j, qs, rfl, rfl, hi, hj, hai, hjb, hfl, hql, hto, hch⟩ := hrel
    by_cases hij : i = j
    · subst hij
      go_wp2_with fail
      refine (swr_at g c (m - i) m i n _ _ _ qs _ (by omega) rfl rfl hfl.out hql.out hm (by omega) (by omega)).mono ?_
      rintro e w' ⟨rfl, rs, hf2, hs2, hc2⟩
      have HF2 := Lib.hid hf2; have HS2 := Lib.hid hs2; have HC2 := Lib.hid hc2
      clear hf2 hs2 hc2
      go_wp2_with fail
      go_end0
      exact ⟨rfl, rs, HF2.out, hto.out _ (RotR.same HS2.out hi (by omega)), hch.out.trans HC2.out (by simp)⟩
    · have hne : ((i : Int) == (j : Int)) = false := beq_eq_false_iff_ne.2 (by omega)
      have hne2 : ((i : Int) != (j : Int)) = true := by rw [bne, hne]; rfl
      by_cases hlt : j < i
      · go_wp2_with fail
        refine (swr_at g c (m - i) m j n _ _ _ qs _ (by omega) rfl rfl hfl.out hql.out hm (by omega) (by omega)).mono ?_
        rintro e w' ⟨rfl, rs, hf2, hs2, hc2⟩
        have HF2 := Lib.hid hf2; have HS2 := Lib.hid hs2; have HC2 := Lib.hid hc2
        clear hf2 hs2 hc2
        go_wp2_with fail
        go_roundw
        case rel => exact ⟨i - j, j, rs, by rw [show ((i - j : Nat) : Int) = (i : Int) - j by omega], rfl, by omega, hj, by omega, hjb, HF2, by rw [hql.out]; exact HS2.out.1.length_eq.symm, fun us h => hto.out _ (h.left HS2.out hj hlt (by omega)), hch.out.trans HC2.out (by simp)⟩
        case measure => simp [intOf]; omega
      · go_wp2_with fail
        refine (swr_at g c (m - i) (m + j - i) i n _ _ _ qs _ (by omega) (by omega) rfl hfl.out hql.out hm (by omega) (by omega)).mono ?_
        rintro e w' ⟨rfl, rs, hf2, hs2, hc2⟩
        have HF2 := Lib.hid hf2; have HS2 := Lib.hid hs2; have HC2 := Lib.hid hc2
        clear hf2 hs2 hc2
        go_wp2_with fail
        go_roundw
        case rel => exact ⟨i, j - i, rs, rfl, by rw [show ((j - i : Nat) : Int) = (j : Int) - i by omega], hi, by omega, hai, by omega, HF2, by rw [hql.out]; exact HS2.out.1.length_eq.symm, fun us h => hto.out _ (h.right HS2.out hi (by omega) (by omega)), hch.out.trans HC2.out (by simp)⟩
        case measure => simp [intOf]; omega
end Go.Proofs.YtjcimajkjnjdpaaDoor
