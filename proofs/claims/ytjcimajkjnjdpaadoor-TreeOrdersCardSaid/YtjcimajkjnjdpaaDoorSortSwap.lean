/- DERIVED. swapRange: two stretches of a row of files, changed for one another. -/
import Derived.Test.YtjcimajkjnjdpaaDoorSortInsW
namespace Go.Proofs.YtjcimajkjnjdpaaDoor
open Go.RowKit
set_option linter.unusedVariables false

/-- Two stretches of a list, changed for one another. -/
def SwR (qs ps : List Pr) (a b n : Nat) : Prop := qs.Perm ps ∧ ∀ k, qs[k]? = if a ≤ k ∧ k < a + n then ps[k - a + b]? else if b ≤ k ∧ k < b + n then ps[k - b + a]? else ps[k]?
theorem SwR.start (ps : List Pr) (a b : Nat) : SwR ps ps a b 0 := ⟨List.Perm.refl _, fun k => by rw [if_neg (by omega), if_neg (by omega)]⟩
theorem SwR.step {qs ps : List Pr} {a b i : Nat} {p q : Pr} (h : SwR qs ps a b i) (hab : a + i < b) (hp : qs[a + i]? = some p) (hq : qs[b + i]? = some q) : SwR (swpF qs (a + i) (b + i) p q) ps a b (i + 1) := by
  refine ⟨(swpF_perm hp hq).trans h.1, fun k => ?_⟩
  have e1 := h.2 (a + i)
  have e2 := h.2 (b + i)
  rw [if_neg (by omega), if_neg (by omega), hp] at e1
  rw [if_neg (by omega), if_neg (by omega), hq] at e2
  rw [swpF_at hp hq]
  by_cases k1 : k = b + i
  · subst k1
    rw [if_pos rfl, if_neg (by omega), if_pos (by omega), show b + i - b + a = a + i by omega]
    exact e1
  · rw [if_neg k1]
    by_cases k2 : k = a + i
    · subst k2
      rw [if_pos rfl, if_pos (by omega), show a + i - a + b = b + i by omega]
      exact e2
    · rw [if_neg k2, h.2 k]
      by_cases k3 : a ≤ k ∧ k < a + i
      · have d1 : a ≤ k ∧ k < a + (i + 1) := by omega
        rw [if_pos k3, if_pos d1]
      · have d1 : ¬ (a ≤ k ∧ k < a + (i + 1)) := by omega
        rw [if_neg k3, if_neg d1]
        by_cases k4 : b ≤ k ∧ k < b + i
        · have d2 : b ≤ k ∧ k < b + (i + 1) := by omega
          rw [if_pos k4, if_pos d2]
        · have d2 : ¬ (b ≤ k ∧ k < b + (i + 1)) := by omega
          rw [if_neg k4, if_neg d2]
set_option maxRecDepth 100000 in
set_option maxHeartbeats 4000000 in
theorem swr_any (g c a b m n : Nat) (ps : List Pr) (w : World) (hr : FlRow w g ps) (hn : n = ps.length) (hm : n ≤ 1000000) (hab : a + m ≤ b) (hb : b + m ≤ n) :
    Calls Tryd.prog 87 #[.slice (some ⟨g, 0, none⟩) n c, .int .i64 a, .int .i64 b, .int .i64 m, .func (.func 16) #[] #[]] w (fun e w' => e = .returned (.tuple #[]) ∧ ∃ qs, FlRow w' g qs ∧ SwR qs ps a b m ∧ Ch [g] w w') := by
  have HR := Lib.hid hr; have HN := Lib.hid hn
  clear hr hn
  go_enter Tryd.func87, Tryd.ntmps87
  go_wp2_with fail
  go_loopw [10] (fun x wr => ∃ (k : Nat) (qs : List Pr), x = .int .i64 k ∧ k ≤ m ∧ Hid (FlRow wr g qs) ∧ Hid (SwR qs ps a b k) ∧ Hid (Ch [g] w wr)) (fun x _ => m - (intOf x).toNat)
  case atStart => exact ⟨0, ps, rfl, Nat.zero_le _, HR.out, SwR.start _ _ _, Ch.refl _ _⟩
  case round =>
    obtain ⟨k, qs, rfl, hkm, hfl, hsw, hch⟩ := hrel
    by_cases hlt : k < m
    · have hrl : qs.length = n := by rw [hsw.out.1.length_eq, ← HN.out]
      obtain ⟨p, hp⟩ : ∃ p, qs[a + k]? = some p := ⟨_, List.getElem?_eq_getElem (by omega)⟩
      obtain ⟨q, hq⟩ : ∃ q, qs[b + k]? = some q := ⟨_, List.getElem?_eq_getElem (by omega)⟩
      obtain ⟨p0, p1⟩ := hfl.out.cell hp
      obtain ⟨q0, q1⟩ := hfl.out.cell hq
      have fz := hfl.out.frozen
      have hs := hfl.out.swap hp hq
      have HST := Lib.hid (hsw.out.step (by omega) hp hq)
      obtain ⟨P1, hP1⟩ : ∃ x : ByteArray, strV p.1 = .string x := ⟨_, rfl⟩
      obtain ⟨P2, hP2⟩ : ∃ x : ByteArray, strV p.2 = .string x := ⟨_, rfl⟩
      obtain ⟨Q1, hQ1⟩ : ∃ x : ByteArray, strV q.1 = .string x := ⟨_, rfl⟩
      obtain ⟨Q2, hQ2⟩ : ∃ x : ByteArray, strV q.2 = .string x := ⟨_, rfl⟩
      rw [hP1, hP2, hQ1, hQ2] at hs
      rw [hP1] at p0; rw [hP2] at p1; rw [hQ1] at q0; rw [hQ2] at q1
      have HFL := Lib.hid hs.drew
      have HCH := Lib.hid (((((hch.out.setCell (p := ⟨g, (a + k) * 2, none⟩) (.inl (by simp)) (.string Q1)).setCell (p := ⟨g, (a + k) * 2 + 1, none⟩) (.inl (by simp)) (.string Q2)).setCell (p := ⟨g, (b + k) * 2, none⟩) (.inl (by simp)) (.string P1)).setCell (p := ⟨g, (b + k) * 2 + 1, none⟩) (.inl (by simp)) (.string P2)).drew)
      have hak : a + k < n := by omega
      have hbk : b + k < n := by omega
      clear hs hp hq hrl hP1 hP2 hQ1 hQ2
      go_wp2_with fail
      go_big_region
      clear p0 p1 q0 q1 fz
      go_wp2_with fail
      go_roundw
      case rel => exact ⟨k + 1, _, by go_num, hlt, HFL, HST, HCH⟩
      case measure => simp [intOf]; omega
    · obtain rfl : k = m := by omega
      go_wp2_with fail
      go_end0
      exact ⟨rfl, qs, hfl.out, hsw.out, hch.out⟩
end Go.Proofs.YtjcimajkjnjdpaaDoor
