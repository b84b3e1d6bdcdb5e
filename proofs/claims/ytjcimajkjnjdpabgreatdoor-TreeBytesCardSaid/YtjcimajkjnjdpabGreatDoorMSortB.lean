/- DERIVED. Texts of this claim, put together: SortMrgA, SortMrgB, SortMrgC, SortStab. -/
import Derived.Test.YtjcimajkjnjdpabGreatDoorMSort
import Derived.Deep.DeepCutAuto
/- DERIVED. The merge in place, walked. (Printed by symgen.py.) -/
namespace Go.Proofs.YtjcimajkjnjdpabGreatDoor
open Go.RowKit
set_option linter.unusedVariables false

def SrtTo (g : Nat) (ps : List Pr) (a b : Nat) (w : World) (e : Ending) (w' : World) : Prop := e = .returned (.tuple #[]) ∧ ∃ qs, FlRow w' g qs ∧ PermOn qs ps a b ∧ SrtOn qs a b ∧ Ch [g] w w'
set_option maxRecDepth 100000 in
set_option maxHeartbeats 4000000 in
theorem sym_one (g c a b n : Nat) (rs : List Pr) (w : World) (hr : FlRow w g rs) (hn : n = rs.length) (hm : n ≤ 1000000) (hmb : a + 1 < b) (hb : b ≤ n) (h1 : SrtOn rs a (a + 1)) (h2 : SrtOn rs (a + 1) b) :
    Calls Tryz.prog 97 #[.slice (some ⟨g, 0, none⟩) n c, .int .i64 a, .int .i64 (a + 1 : Nat), .int .i64 b, .func (.func 34) #[] #[]] w (SrtTo g rs a b w) := by
  have HR := Lib.hid hr; have hln := Lib.hid hn; have HS1 := Lib.hid h1; have HS2 := Lib.hid h2
  clear hr hn h1 h2
  go_enter Tryz.func97, Tryz.ntmps97
  go_wp2_with fail
  go_loopw [10, 11] (fun x y wr => ∃ (i j : Nat), x = .int .i64 i ∧ y = .int .i64 j ∧ a + 1 ≤ i ∧ i ≤ j ∧ j ≤ b ∧ Hid (FlRow wr g rs) ∧ Hid (i = a + 1 ∨ leAt rs (i - 1) a) ∧ Hid (j = b ∨ leAt rs a j) ∧ Hid (Ch [g] w wr)) (fun x y _ => (intOf y).toNat - (intOf x).toNat)
  case atStart => exact ⟨a + 1, b, by go_num, rfl, Nat.le_refl _, by omega, Nat.le_refl _, HR.out, .inl rfl, .inl rfl, Ch.refl _ _⟩
  case round =>
    obtain ⟨i, j, rfl, rfl, hai, hij, hjb, hfl, hlo, hhi, hch⟩ := hrel
    by_cases hlt : i < j
    · -- one comparison
      have hrl : rs.length = n := by rw [← hln.out]
      obtain ⟨p, hp⟩ : ∃ p, rs[(i + j) / 2]? = some p := ⟨_, List.getElem?_eq_getElem (by omega)⟩
      obtain ⟨q, hq⟩ : ∃ q, rs[a]? = some q := ⟨_, List.getElem?_eq_getElem (by omega)⟩
      obtain ⟨ι, F, hF0, hFB, hFG⟩ := below_fam wr
      have hcF : ∀ a v, wr.cell? a = some v → ∀ n, (F n).cell? a = some v := fun a v h n => below_keeps (hFB n) _ _ h
      have p0 := hcF _ _ (hfl.out.cell hp).1
      have p1 := hcF _ _ (hfl.out.cell hp).2
      have q0 := hcF _ _ (hfl.out.cell hq).1
      have q1 := hcF _ _ (hfl.out.cell hq).2
      obtain ⟨z, hz⟩ : ∃ z, z = Lib.compareBytes p.1 q.1 := ⟨_, rfl⟩
      have hcall : ∀ n, Calls Tryz.prog 34 #[.agg #[strV p.1, strV p.2], .agg #[strV q.1, strV q.2]] (F n) (fun e w' => e = .returned (.int .i64 z) ∧ ∃ m, w' = F m) :=
        calls_fam hFB hFG fun W hW => by rw [hz]; exact byPath_any p q W
      obtain ⟨P1, hP1⟩ : ∃ x : ByteArray, strV p.1 = .string x := ⟨_, rfl⟩
      obtain ⟨P2, hP2⟩ : ∃ x : ByteArray, strV p.2 = .string x := ⟨_, rfl⟩
      obtain ⟨Q1, hQ1⟩ : ∃ x : ByteArray, strV q.1 = .string x := ⟨_, rfl⟩
      obtain ⟨Q2, hQ2⟩ : ∃ x : ByteArray, strV q.2 = .string x := ⟨_, rfl⟩
      rw [hP1] at p0 hcall; rw [hP2] at p1 hcall; rw [hQ1] at q0 hcall; rw [hQ2] at q1 hcall
      have HCALL := Lib.hid hcall; have HF0 := Lib.hid hF0; have HFB := Lib.hid hFB
      have HP := Lib.hid hp; have HQ := Lib.hid hq; have HZ := Lib.hid hz
      have hjn1 : (i + j) / 2 < n := by omega
      have hjn2 : a < n := by omega
      clear hcall hF0 hFB hFG hcF hp hq hz hP1 hP2 hQ1 hQ2 hrl
      go_wp2_with fail
      obtain ⟨n0, hn0⟩ := HF0.out 1
      have hne : Nonempty ι := ⟨n0⟩
      refine wp_region_fam F n0 hn0 (by kernel_rfl) (by kernel_rfl) ?_
      repeat (go_big_quiet_step ((go_at_call 34; exact HCALL.out _)))
      refine wpQuiet_nil ?_
      intro _ hw'
      obtain ⟨m0, hw''⟩ := hw'
      subst hw''
      have hzl := cmp_less p.1 q.1
      rw [← HZ.out] at hzl
      have hB1 := HFB.out m0
      clear p0 p1 q0 q1
      obtain ⟨W1, hW1⟩ : ∃ W1, W1 = F m0 := ⟨_, rfl⟩
      rw [← hW1] at hB1 ⊢
      have HF1 := Lib.hid (hfl.out.keep (hB1.block g hfl.out.lt))
      have HC1 := Lib.hid (hch.out.trans (Ch.of_below hB1 []) (by simp))
      clear hB1 hW1 HFB HF0 HCALL
      by_cases hz0 : z < 0
      · have hless : leF p q := leF.of_less (by rw [← hzl]; simpa using hz0)
        have HLE := Lib.hid (leAt.of HP.out HQ.out hless)
        clear hless hzl
        go_wp2_with fail
        go_roundw
        case rel => exact ⟨(i + j) / 2 + 1, j, by go_num, rfl, by omega, by omega, hjb, HF1, .inr (by rw [Nat.add_sub_cancel]; exact HLE.out), hhi, HC1⟩
        case measure => simp [intOf]; omega
      · have hless : leF q p := by unfold leF; rw [← hzl]; simpa using hz0
        have HLE := Lib.hid (leAt.of HQ.out HP.out hless)
        clear hless hzl
        go_wp2_with fail
        go_roundw
        case rel => exact ⟨i, (i + j) / 2, rfl, by go_num, hai, by omega, by omega, HF1, hlo, .inr HLE.out, HC1⟩
        case measure => simp [intOf]; omega
    · obtain rfl : i = j := by omega
      go_wp2_with fail
      go_loopw [13] (fun x wr => ∃ (k : Nat) (qs : List Pr), x = .int .i64 k ∧ a ≤ k ∧ k + 1 ≤ i ∧ Hid (FlRow wr g qs) ∧ Hid (n = qs.length) ∧ Hid (MvU qs rs a k) ∧ Hid (Ch [g] w wr)) (fun x _ => i - (intOf x).toNat)
      case atStart => exact ⟨a, rs, rfl, Nat.le_refl _, hai, hfl, hln, MvU.start _ _, hch⟩
      case round =>
        obtain ⟨k, qs, rfl, hak0, hki, hfl2, hln2, hmv, hch2⟩ := hrel
        have HOLD := hln; clear hln; have hln := hln2
        by_cases hlt2 : k + 1 < i
        · have hlt3 : (k : Int) < (i : Int) - 1 := by omega
          have hrl : qs.length = n := by rw [← hln.out]
          obtain ⟨p, hp⟩ : ∃ p, qs[k]? = some p := ⟨_, List.getElem?_eq_getElem (by omega)⟩
          obtain ⟨q, hq⟩ : ∃ q, qs[k + 1]? = some q := ⟨_, List.getElem?_eq_getElem (by omega)⟩
          obtain ⟨p0, p1⟩ := hfl2.out.cell hp
          obtain ⟨q0, q1⟩ := hfl2.out.cell hq
          have fz := hfl2.out.frozen
          have hs := hfl2.out.swap hp hq
          have HMV := Lib.hid (hmv.out.step hak0 hp hq)
          obtain ⟨P1, hP1⟩ : ∃ x : ByteArray, strV p.1 = .string x := ⟨_, rfl⟩
          obtain ⟨P2, hP2⟩ : ∃ x : ByteArray, strV p.2 = .string x := ⟨_, rfl⟩
          obtain ⟨Q1, hQ1⟩ : ∃ x : ByteArray, strV q.1 = .string x := ⟨_, rfl⟩
          obtain ⟨Q2, hQ2⟩ : ∃ x : ByteArray, strV q.2 = .string x := ⟨_, rfl⟩
          rw [hP1, hP2, hQ1, hQ2] at hs
          rw [hP1] at p0; rw [hP2] at p1; rw [hQ1] at q0; rw [hQ2] at q1
          have HFL := Lib.hid hs.drew
          have HLN := Lib.hid (show n = (swpF qs k (k + 1) p q).length from by rw [swpF_length]; exact hrl.symm)
          have HCH := Lib.hid (((((hch2.out.setCell (p := ⟨g, k * 2, none⟩) (.inl (by simp)) (.string Q1)).setCell (p := ⟨g, k * 2 + 1, none⟩) (.inl (by simp)) (.string Q2)).setCell (p := ⟨g, (k + 1) * 2, none⟩) (.inl (by simp)) (.string P1)).setCell (p := ⟨g, (k + 1) * 2 + 1, none⟩) (.inl (by simp)) (.string P2)).drew)
          have hak : k < n := by omega
          have hbk : k + 1 < n := by omega
          clear hs hp hq hrl hP1 hP2 hQ1 hQ2
          go_wp2_with fail
          go_big_region
          clear p0 p1 q0 q1 fz
          go_wp2_with fail
          go_roundw
          case rel => exact ⟨k + 1, _, by go_num, by omega, by omega, HFL, HLN, HMV, HCH⟩
          case measure => simp [intOf]; omega
        · have hlt3 : ¬ (k : Int) < (i : Int) - 1 := by omega
          obtain rfl : k = i - 1 := by omega
          go_wp2_with fail
          go_end0
          obtain ⟨d1, d2⟩ := hmv.out.done HS2.out (by rw [← HOLD.out]; exact hb) hai hjb hlo.out hhi.out
          exact ⟨rfl, qs, hfl2.out, d1, d2, hch2.out⟩
end Go.Proofs.YtjcimajkjnjdpabGreatDoor

/- DERIVED. The merge in place, walked. (Printed by symgen.py.) -/
namespace Go.Proofs.YtjcimajkjnjdpabGreatDoor
open Go.RowKit
set_option linter.unusedVariables false

set_option maxRecDepth 100000 in
set_option maxHeartbeats 4000000 in
theorem sym_last (g c a m n : Nat) (rs : List Pr) (w : World) (hr : FlRow w g rs) (hn : n = rs.length) (hm : n ≤ 1000000) (hma : a + 1 < m) (hb : m + 1 ≤ n) (h1 : SrtOn rs a m) (h2 : SrtOn rs m (m + 1)) :
    Calls Tryz.prog 97 #[.slice (some ⟨g, 0, none⟩) n c, .int .i64 a, .int .i64 m, .int .i64 (m + 1 : Nat), .func (.func 34) #[] #[]] w (SrtTo g rs a (m + 1) w) := by
  have hne1 : ((m : Int) - a == 1) = false := beq_eq_false_iff_ne.2 (by omega)
  have HR := Lib.hid hr; have hln := Lib.hid hn; have HS1 := Lib.hid h1; have HS2 := Lib.hid h2
  clear hr hn h1 h2
  go_enter Tryz.func97, Tryz.ntmps97
  go_wp2_with fail
  go_loopw [14, 15] (fun x y wr => ∃ (i j : Nat), x = .int .i64 i ∧ y = .int .i64 j ∧ a ≤ i ∧ i ≤ j ∧ j ≤ m ∧ Hid (FlRow wr g rs) ∧ Hid (i = a ∨ leAt rs (i - 1) m) ∧ Hid (j = m ∨ leAt rs m j) ∧ Hid (Ch [g] w wr)) (fun x y _ => (intOf y).toNat - (intOf x).toNat)
  case atStart => exact ⟨a, m, rfl, rfl, Nat.le_refl _, by omega, Nat.le_refl _, HR.out, .inl rfl, .inl rfl, Ch.refl _ _⟩
  case round =>
    obtain ⟨i, j, rfl, rfl, hai, hij, hjb, hfl, hlo, hhi, hch⟩ := hrel
    by_cases hlt : i < j
    · -- one comparison
      have hrl : rs.length = n := by rw [← hln.out]
      obtain ⟨p, hp⟩ : ∃ p, rs[m]? = some p := ⟨_, List.getElem?_eq_getElem (by omega)⟩
      obtain ⟨q, hq⟩ : ∃ q, rs[(i + j) / 2]? = some q := ⟨_, List.getElem?_eq_getElem (by omega)⟩
      obtain ⟨ι, F, hF0, hFB, hFG⟩ := below_fam wr
      have hcF : ∀ a v, wr.cell? a = some v → ∀ n, (F n).cell? a = some v := fun a v h n => below_keeps (hFB n) _ _ h
      have p0 := hcF _ _ (hfl.out.cell hp).1
      have p1 := hcF _ _ (hfl.out.cell hp).2
      have q0 := hcF _ _ (hfl.out.cell hq).1
      have q1 := hcF _ _ (hfl.out.cell hq).2
      obtain ⟨z, hz⟩ : ∃ z, z = Lib.compareBytes p.1 q.1 := ⟨_, rfl⟩
      have hcall : ∀ n, Calls Tryz.prog 34 #[.agg #[strV p.1, strV p.2], .agg #[strV q.1, strV q.2]] (F n) (fun e w' => e = .returned (.int .i64 z) ∧ ∃ m, w' = F m) :=
        calls_fam hFB hFG fun W hW => by rw [hz]; exact byPath_any p q W
      obtain ⟨P1, hP1⟩ : ∃ x : ByteArray, strV p.1 = .string x := ⟨_, rfl⟩
      obtain ⟨P2, hP2⟩ : ∃ x : ByteArray, strV p.2 = .string x := ⟨_, rfl⟩
      obtain ⟨Q1, hQ1⟩ : ∃ x : ByteArray, strV q.1 = .string x := ⟨_, rfl⟩
      obtain ⟨Q2, hQ2⟩ : ∃ x : ByteArray, strV q.2 = .string x := ⟨_, rfl⟩
      rw [hP1] at p0 hcall; rw [hP2] at p1 hcall; rw [hQ1] at q0 hcall; rw [hQ2] at q1 hcall
      have HCALL := Lib.hid hcall; have HF0 := Lib.hid hF0; have HFB := Lib.hid hFB
      have HP := Lib.hid hp; have HQ := Lib.hid hq; have HZ := Lib.hid hz
      have hjn1 : m < n := by omega
      have hjn2 : (i + j) / 2 < n := by omega
      clear hcall hF0 hFB hFG hcF hp hq hz hP1 hP2 hQ1 hQ2 hrl
      go_wp2_with fail
      obtain ⟨n0, hn0⟩ := HF0.out 1
      have hne : Nonempty ι := ⟨n0⟩
      refine wp_region_fam F n0 hn0 (by kernel_rfl) (by kernel_rfl) ?_
      repeat (go_big_quiet_step ((go_at_call 34; exact HCALL.out _)))
      refine wpQuiet_nil ?_
      intro _ hw'
      obtain ⟨m0, hw''⟩ := hw'
      subst hw''
      have hzl := cmp_less p.1 q.1
      rw [← HZ.out] at hzl
      have hB1 := HFB.out m0
      clear p0 p1 q0 q1
      obtain ⟨W1, hW1⟩ : ∃ W1, W1 = F m0 := ⟨_, rfl⟩
      rw [← hW1] at hB1 ⊢
      have HF1 := Lib.hid (hfl.out.keep (hB1.block g hfl.out.lt))
      have HC1 := Lib.hid (hch.out.trans (Ch.of_below hB1 []) (by simp))
      clear hB1 hW1 HFB HF0 HCALL
      by_cases hz0 : z < 0
      · have hless : leF p q := leF.of_less (by rw [← hzl]; simpa using hz0)
        have hz1 : (!decide (z < 0)) = false := by simp [hz0]
        rw [hz1]
        have HLE := Lib.hid (leAt.of HP.out HQ.out hless)
        clear hless hzl
        go_wp2_with fail
        go_roundw
        case rel => exact ⟨i, (i + j) / 2, rfl, by go_num, hai, by omega, by omega, HF1, hlo, .inr HLE.out, HC1⟩
        case measure => simp [intOf]; omega
      · have hless : leF q p := by unfold leF; rw [← hzl]; simpa using hz0
        have hz1 : (!decide (z < 0)) = true := by simp [hz0]
        rw [hz1]
        have HLE := Lib.hid (leAt.of HQ.out HP.out hless)
        clear hless hzl
        go_wp2_with fail
        go_roundw
        case rel => exact ⟨(i + j) / 2 + 1, j, by go_num, rfl, by omega, by omega, hjb, HF1, .inr (by rw [Nat.add_sub_cancel]; exact HLE.out), hhi, HC1⟩
        case measure => simp [intOf]; omega
    · obtain rfl : i = j := by omega
      go_wp2_with fail
      go_loopw [17] (fun x wr => ∃ (k : Nat) (qs : List Pr), x = .int .i64 k ∧ i ≤ k ∧ k ≤ m ∧ Hid (FlRow wr g qs) ∧ Hid (n = qs.length) ∧ Hid (MvD qs rs m k) ∧ Hid (Ch [g] w wr)) (fun x _ => (intOf x).toNat)
      case atStart => exact ⟨m, rs, rfl, hjb, Nat.le_refl _, hfl, hln, MvD.start _ _, hch⟩
      case round =>
        obtain ⟨k, qs, rfl, hak0, hki, hfl2, hln2, hmv, hch2⟩ := hrel
        have HOLD := hln; clear hln; have hln := hln2
        by_cases hlt2 : i < k
        · -- one swap
          have hrl : qs.length = n := by rw [← hln.out]
          obtain ⟨p, hp⟩ : ∃ p, qs[k]? = some p := ⟨_, List.getElem?_eq_getElem (by omega)⟩
          obtain ⟨q, hq⟩ : ∃ q, qs[k - 1]? = some q := ⟨_, List.getElem?_eq_getElem (by omega)⟩
          obtain ⟨p0, p1⟩ := hfl2.out.cell hp
          obtain ⟨q0, q1⟩ := hfl2.out.cell hq
          have fz := hfl2.out.frozen
          have hs := hfl2.out.swap hp hq
          have HMV := Lib.hid (hmv.out.step (by omega) hki hp hq)
          obtain ⟨P1, hP1⟩ : ∃ x : ByteArray, strV p.1 = .string x := ⟨_, rfl⟩
          obtain ⟨P2, hP2⟩ : ∃ x : ByteArray, strV p.2 = .string x := ⟨_, rfl⟩
          obtain ⟨Q1, hQ1⟩ : ∃ x : ByteArray, strV q.1 = .string x := ⟨_, rfl⟩
          obtain ⟨Q2, hQ2⟩ : ∃ x : ByteArray, strV q.2 = .string x := ⟨_, rfl⟩
          rw [hP1, hP2, hQ1, hQ2] at hs
          rw [hP1] at p0; rw [hP2] at p1; rw [hQ1] at q0; rw [hQ2] at q1
          have HFL := Lib.hid hs.drew
          have HLN := Lib.hid (show n = (swpF qs k (k - 1) p q).length from by rw [swpF_length]; exact hrl.symm)
          have HCH := Lib.hid (((((hch2.out.setCell (p := ⟨g, k * 2, none⟩) (.inl (by simp)) (.string Q1)).setCell (p := ⟨g, k * 2 + 1, none⟩) (.inl (by simp)) (.string Q2)).setCell (p := ⟨g, (k - 1) * 2, none⟩) (.inl (by simp)) (.string P1)).setCell (p := ⟨g, (k - 1) * 2 + 1, none⟩) (.inl (by simp)) (.string P2)).drew)
          have hak : k < n := by omega
          have hbk : k - 1 < n := by omega
          clear hs hp hq hrl hP1 hP2 hQ1 hQ2
          go_wp2_with fail
          go_big_region
          clear p0 p1 q0 q1 fz
          go_wp2_with fail
          go_roundw
          case rel => exact ⟨k - 1, _, by rw [show ((k - 1 : Nat) : Int) = (k : Int) - 1 by omega], by omega, by omega, HFL, HLN, HMV, HCH⟩
          case measure => simp [intOf]; omega
        · obtain rfl : k = i := by omega
          go_wp2_with fail
          go_end0
          obtain ⟨d1, d2⟩ := hmv.out.done HS1.out (by rw [← HOLD.out]; exact hb) hai hjb hlo.out hhi.out
          exact ⟨rfl, qs, hfl2.out, d1, d2, hch2.out⟩
end Go.Proofs.YtjcimajkjnjdpabGreatDoor

/- DERIVED. The merge in place, walked. (Printed by symgen.py.) -/
namespace Go.Proofs.YtjcimajkjnjdpabGreatDoor
open Go.RowKit
set_option linter.unusedVariables false

set_option maxRecDepth 100000 in
set_option maxHeartbeats 8000000 in
theorem sym_any : ∀ (N g c a m b n : Nat) (ps : List Pr) (w : World), b - a ≤ N → FlRow w g ps → n = ps.length → n ≤ 1000000 → a < m → m < b → b ≤ n → SrtOn ps a m → SrtOn ps m b →
    Calls Tryz.prog 97 #[.slice (some ⟨g, 0, none⟩) n c, .int .i64 a, .int .i64 m, .int .i64 b, .func (.func 34) #[] #[]] w (SrtTo g ps a b w) := by
  intro N
  induction N with
  | zero => intro g c a m b n ps w h; omega
  | succ N ih =>
  intro g c a m b n ps w hN hr hn hm ham hmb hb h1 h2
  by_cases e1 : m = a + 1
  · subst e1; exact sym_one g c a b n ps w hr hn hm hmb hb h1 h2
  by_cases e2 : b = m + 1
  · subst e2; exact sym_last g c a m n ps w hr hn hm (by omega) hb h1 h2
  have hne1 : ((m : Int) - a == 1) = false := beq_eq_false_iff_ne.2 (by omega)
  have hne2 : ((b : Int) - m == 1) = false := beq_eq_false_iff_ne.2 (by omega)
  obtain ⟨mid, hmid⟩ : ∃ mid, mid = (a + b) / 2 := ⟨_, rfl⟩
  have hm1 : a < mid := by omega
  have hm2 : mid < b := by omega
  have hmI : ((a : Int) + b) / 2 = mid := by omega
  have hm3 : 2 * mid ≤ a + b := by omega
  have hm4 : a + b ≤ 2 * mid + 1 := by omega
  clear hmid
  obtain ⟨pp, hpp⟩ : ∃ pp, pp + 1 = mid + m := ⟨mid + m - 1, by omega⟩
  have hpI : ((mid : Int) + m) - 1 = pp := by omega
  have hp1 : pp + 1 ≤ mid + m := by omega
  have hp2 : mid + m ≤ pp + 1 := by omega
  clear hpp
  have HIH := Lib.hid ih
  have HMI := Lib.hid hmI; have HPI := Lib.hid hpI
  clear ih hmI hpI
  have HR := Lib.hid hr; have hln := Lib.hid hn; have HS1 := Lib.hid h1; have HS2 := Lib.hid h2
  clear hr hn h1 h2
  go_enter Tryz.func97, Tryz.ntmps97
  go_upto_if 140 with fail
  rw [HMI.out]
  go_cut [20, 21] (fun x y wx => ∃ (s r : Nat), x = .int .i64 s ∧ y = .int .i64 r ∧ a ≤ s ∧ s ≤ r ∧ r ≤ m ∧ r ≤ mid ∧ mid + m ≤ s + b ∧ (s = a ∨ s + b = mid + m) ∧ (r = m ∨ r = mid) ∧ w = wx)
  case first =>
    by_cases hgm : mid < m
    · go_wp2_with fail
      go_meet
      exact ⟨mid + m - b, mid, by rw [show ((mid + m - b : Nat) : Int) = (mid : Int) + m - b by omega], rfl, by omega, by omega, by omega, by omega, by omega, .inr (by omega), .inr rfl, rfl⟩
    · go_wp2_with fail
      go_meet
      exact ⟨a, m, rfl, rfl, by omega, by omega, by omega, by omega, by omega, .inl rfl, .inl rfl, rfl⟩
  obtain ⟨s0, r0, rfl, rfl, hs1, hsr, hrm, hrd, hsb, hs0, hr0, rfl⟩ := hcut
  have HS0 := Lib.hid hs0; have HR0 := Lib.hid hr0
  clear hs0 hr0
  go_wp2_with fail
  rw [HPI.out]
  go_loopw [20, 21] (fun x y wr => ∃ (s r : Nat), x = .int .i64 s ∧ y = .int .i64 r ∧ a ≤ s ∧ s ≤ r ∧ r ≤ m ∧ r ≤ mid ∧ mid + m ≤ s + b ∧ Hid (FlRow wr g ps) ∧ Hid (s = a ∨ mid + m - s = b ∨ leAt ps (s - 1) (mid + m - s)) ∧ Hid (r = m ∨ mid + m - r = m ∨ leAt ps (mid + m - r - 1) r) ∧ Hid (Ch [g] w wr)) (fun x y _ => (intOf y).toNat - (intOf x).toNat)
  case atStart => exact ⟨s0, r0, rfl, rfl, hs1, hsr, hrm, hrd, hsb, HR.out, HS0.out.elim .inl (fun h => .inr (.inl (by omega))), HR0.out.elim .inl (fun h => .inr (.inl (by omega))), Ch.refl _ _⟩
  case round =>
    obtain ⟨s, r, rfl, rfl, hs1, hsr, hrm, hrd, hsb, hfl, hlo, hhi, hch⟩ := hrel
    by_cases hlt : s < r
    · obtain ⟨cc, hcc⟩ : ∃ cc, cc = (s + r) / 2 := ⟨_, rfl⟩
      have hcI : ((s : Int) + r) / 2 = cc := by omega
      have hc1 : s ≤ cc := by omega
      have hc2 : cc < r := by omega
      clear hcc
      have hrl : ps.length = n := by rw [← hln.out]
      obtain ⟨p, hp⟩ : ∃ p, ps[pp - cc]? = some p := ⟨_, List.getElem?_eq_getElem (by omega)⟩
      obtain ⟨q, hq⟩ : ∃ q, ps[cc]? = some q := ⟨_, List.getElem?_eq_getElem (by omega)⟩
      obtain ⟨ι, F, hF0, hFB, hFG⟩ := below_fam wr
      have hcF : ∀ a v, wr.cell? a = some v → ∀ n, (F n).cell? a = some v := fun a v h n => below_keeps (hFB n) _ _ h
      have p0 := hcF _ _ (hfl.out.cell hp).1
      have p1 := hcF _ _ (hfl.out.cell hp).2
      have q0 := hcF _ _ (hfl.out.cell hq).1
      have q1 := hcF _ _ (hfl.out.cell hq).2
      obtain ⟨z, hz⟩ : ∃ z, z = Lib.compareBytes p.1 q.1 := ⟨_, rfl⟩
      have hcall : ∀ n, Calls Tryz.prog 34 #[.agg #[strV p.1, strV p.2], .agg #[strV q.1, strV q.2]] (F n) (fun e w' => e = .returned (.int .i64 z) ∧ ∃ m, w' = F m) :=
        calls_fam hFB hFG fun W hW => by rw [hz]; exact byPath_any p q W
      obtain ⟨P1, hP1⟩ : ∃ x : ByteArray, strV p.1 = .string x := ⟨_, rfl⟩
      obtain ⟨P2, hP2⟩ : ∃ x : ByteArray, strV p.2 = .string x := ⟨_, rfl⟩
      obtain ⟨Q1, hQ1⟩ : ∃ x : ByteArray, strV q.1 = .string x := ⟨_, rfl⟩
      obtain ⟨Q2, hQ2⟩ : ∃ x : ByteArray, strV q.2 = .string x := ⟨_, rfl⟩
      rw [hP1] at p0 hcall; rw [hP2] at p1 hcall; rw [hQ1] at q0 hcall; rw [hQ2] at q1 hcall
      have HCALL := Lib.hid hcall; have HF0 := Lib.hid hF0; have HFB := Lib.hid hFB
      have HP := Lib.hid hp; have HQ := Lib.hid hq; have HZ := Lib.hid hz
      have hjn1 : pp - cc < n := by omega
      have hjn2 : cc < n := by omega
      clear hcall hF0 hFB hFG hcF hp hq hz hP1 hP2 hQ1 hQ2 hrl
      go_wp2_with fail
      clear hcI
      obtain ⟨n0, hn0⟩ := HF0.out 1
      have hne : Nonempty ι := ⟨n0⟩
      refine wp_region_fam F n0 hn0 (by kernel_rfl) (by kernel_rfl) ?_
      repeat (go_big_quiet_step ((go_at_call 34; exact HCALL.out _)))
      refine wpQuiet_nil ?_
      intro _ hw'
      obtain ⟨m0, hw''⟩ := hw'
      subst hw''
      have hzl := cmp_less p.1 q.1
      rw [← HZ.out] at hzl
      have hB1 := HFB.out m0
      clear p0 p1 q0 q1
      obtain ⟨W1, hW1⟩ : ∃ W1, W1 = F m0 := ⟨_, rfl⟩
      rw [← hW1] at hB1 ⊢
      have HF1 := Lib.hid (hfl.out.keep (hB1.block g hfl.out.lt))
      have HC1 := Lib.hid (hch.out.trans (Ch.of_below hB1 []) (by simp))
      clear hB1 hW1 HFB HF0 HCALL
      by_cases hz0 : z < 0
      · have hless : leF p q := leF.of_less (by rw [← hzl]; simpa using hz0)
        have hz1 : (!decide (z < 0)) = false := by simp [hz0]
        rw [hz1]
        have HLE := Lib.hid (leAt.of HP.out HQ.out hless)
        clear hless hzl
        go_wp2_with fail
        go_roundw
        case rel => exact ⟨s, cc, rfl, rfl, hs1, hc1, by omega, by omega, hsb, HF1, hlo, .inr (.inr (by rw [show mid + m - cc - 1 = pp - cc by omega]; exact HLE.out)), HC1⟩
        case measure => simp [intOf]; omega
      · have hless : leF q p := by unfold leF; rw [← hzl]; simpa using hz0
        have hz1 : (!decide (z < 0)) = true := by simp [hz0]
        rw [hz1]
        have HLE := Lib.hid (leAt.of HQ.out HP.out hless)
        clear hless hzl
        go_wp2_with fail
        go_roundw
        case rel => exact ⟨cc + 1, r, by go_num, rfl, by omega, by omega, hrm, hrd, by omega, HF1, .inr (.inr (by rw [Nat.add_sub_cancel, show mid + m - (cc + 1) = pp - cc by omega]; exact HLE.out)), hhi, HC1⟩
        case measure => simp [intOf]; omega
    · obtain rfl : s = r := by omega
      obtain ⟨e, he⟩ : ∃ e, e = mid + m - s := ⟨_, rfl⟩
      have heI : ((mid : Int) + m) - s = e := by omega
      have he1 : m ≤ e := by omega
      have he2 : e ≤ b := by omega
      have he3 : s + e ≤ mid + m := by omega
      have he4 : mid + m ≤ s + e := by omega
      rw [← he] at hlo hhi
      have HEI := Lib.hid heI; have HLO := Lib.hid hlo.out; have HHI := Lib.hid hhi.out
      clear he heI hlo hhi
      go_upto_region 39 with fail
      rw [HEI.out]
      go_upto_region 39 with fail
      go_cut [185] (fun x wx => x = .bool (decide (s < m ∧ m < e)) ∧ wr = wx)
      case first => as_aux_lemma =>
        by_cases c1 : s < m
        · by_cases c2 : m < e
          · have c3 : decide (s < m ∧ m < e) = true := decide_eq_true ⟨c1, c2⟩
            have C3 := Lib.hid c3
            clear c3
            go_wp2_with fail
            go_meet
            exact ⟨congrArg Value.bool C3.out.symm, rfl⟩
          · have c3 : decide (s < m ∧ m < e) = false := decide_eq_false (fun h => c2 h.2)
            have C3 := Lib.hid c3
            clear c3
            go_wp2_with fail
            go_meet
            exact ⟨congrArg Value.bool C3.out.symm, rfl⟩
        · have c3 : decide (s < m ∧ m < e) = false := decide_eq_false (fun h => c1 h.1)
          have C3 := Lib.hid c3
          clear c3
          go_wp2_with fail
          go_meet
          exact ⟨congrArg Value.bool C3.out.symm, rfl⟩
      obtain ⟨rfl, rfl⟩ := hcut
      go_upto_if 185 with fail
      go_cut [] (fun wx => ∃ qs, FlRow wx g qs ∧ n = qs.length ∧ RotR qs ps s m e ∧ Ch [g] w wx)
      case first => as_aux_lemma =>
        by_cases c1 : s < m ∧ m < e
        · have c2 : decide (s < m ∧ m < e) = true := decide_eq_true c1
          rw [c2]
          go_wp2_with fail
          refine (rot_any g c s m e n ps _ hfl.out hln.out hm c1.1 c1.2 (by omega)).mono ?_
          rintro ee w' ⟨rfl, qs, g1, g2, g3⟩
          have G1 := Lib.hid g1; have G2 := Lib.hid g2; have G3 := Lib.hid g3
          clear g1 g2 g3
          go_wp2_with fail
          go_meet
          exact ⟨qs, G1.out, by rw [hln.out]; exact G2.out.1.length_eq.symm, G2.out, hch.out.trans G3.out (by simp)⟩
        · have c2 : decide (s < m ∧ m < e) = false := decide_eq_false c1
          rw [c2]
          go_wp2_with fail
          go_meet
          exact ⟨ps, hfl.out, hln.out, RotR.none (by omega) he1 (by omega), hch.out⟩
      obtain ⟨qs, f1, f2, f3, f4⟩ := hcut
      obtain ⟨d1, d2, d3, d4, d5, d6⟩ := sym_turn (mid := mid) f3 HS1.out HS2.out (by rw [← hln.out]; exact hb) hs1 hrm he1 he2 (by omega) (by omega) (by omega) HLO.out HHI.out
      have HF := Lib.hid f1; have HL := Lib.hid f2; have HC := Lib.hid f4
      have D1 := Lib.hid d1; have D2 := Lib.hid d2; have D3 := Lib.hid d3; have D4 := Lib.hid d4; have D5 := Lib.hid d5; have D6 := Lib.hid d6
      clear f1 f2 f3 f4 d1 d2 d3 d4 d5 d6 hch hfl
      obtain ⟨W2, hW2⟩ : ∃ W, W = wc := ⟨_, rfl⟩
      subst hW2
      go_upto_region 41 with fail
      go_cut [199] (fun x wx => x = .bool (decide (a < s ∧ s < mid)) ∧ W2 = wx)
      case first => as_aux_lemma =>
        by_cases c1 : a < s
        · by_cases c2 : s < mid
          · have c3 : decide (a < s ∧ s < mid) = true := decide_eq_true ⟨c1, c2⟩
            have C3 := Lib.hid c3
            clear c3
            go_wp2_with fail
            go_meet
            exact ⟨congrArg Value.bool C3.out.symm, rfl⟩
          · have c3 : decide (a < s ∧ s < mid) = false := decide_eq_false (fun h => c2 h.2)
            have C3 := Lib.hid c3
            clear c3
            go_wp2_with fail
            go_meet
            exact ⟨congrArg Value.bool C3.out.symm, rfl⟩
        · have c3 : decide (a < s ∧ s < mid) = false := decide_eq_false (fun h => c1 h.1)
          have C3 := Lib.hid c3
          clear c3
          go_wp2_with fail
          go_meet
          exact ⟨congrArg Value.bool C3.out.symm, rfl⟩
      obtain ⟨rfl, rfl⟩ := hcut
      go_upto_if 199 with fail
      go_cut [] (fun wx => ∃ rs, FlRow wx g rs ∧ n = rs.length ∧ PermOn rs qs a mid ∧ SrtOn rs a mid ∧ Ch [g] w wx)
      case first => as_aux_lemma =>
        by_cases c1 : a < s ∧ s < mid
        · have c2 : decide (a < s ∧ s < mid) = true := decide_eq_true c1
          rw [c2]
          go_wp2_with fail
          refine (HIH.out g c a s mid n qs _ (by omega) HF.out HL.out hm c1.1 c1.2 (by omega) D2.out D3.out).mono ?_
          rintro ee w' ⟨rfl, rs, g1, g2, g3, g4⟩
          have G1 := Lib.hid g1; have G2 := Lib.hid g2; have G3 := Lib.hid g3; have G4 := Lib.hid g4
          clear g1 g2 g3 g4
          go_wp2_with fail
          go_meet
          exact ⟨rs, G1.out, by rw [HL.out]; exact G2.out.length.symm, G2.out, G3.out, HC.out.trans G4.out (by simp)⟩
        · have c2 : decide (a < s ∧ s < mid) = false := decide_eq_false c1
          rw [c2]
          go_wp2_with fail
          go_meet
          refine ⟨qs, HF.out, HL.out, PermOn.refl _ _ _, ?_, HC.out⟩
          by_cases c3 : a < s
          · have : s = mid := by omega
            rw [← this]; exact D2.out
          · have : s = a := by omega
            rw [← this]; exact D3.out
      obtain ⟨rs, f1, f2, f3, f5, f4⟩ := hcut
      have HFL := Lib.hid f1; have HLL := Lib.hid f2; have HPL := Lib.hid f3; have HSL := Lib.hid f5; have HCL := Lib.hid f4
      have K1 := Lib.hid (show SrtOn rs mid e from fun i j p q h1 h2 h3 hp hq => by rw [f3.2 i (.inr h1)] at hp; rw [f3.2 j (.inr (by omega))] at hq; exact D4.out i j p q h1 h2 h3 hp hq)
      have K2 := Lib.hid (show SrtOn rs e b from fun i j p q h1 h2 h3 hp hq => by rw [f3.2 i (.inr (by omega))] at hp; rw [f3.2 j (.inr (by omega))] at hq; exact D5.out i j p q h1 h2 h3 hp hq)
      clear f1 f2 f3 f4 f5 HC HF HL
      obtain ⟨W3, hW3⟩ : ∃ W, W = wc := ⟨_, rfl⟩
      subst hW3
      go_upto_region 43 with fail
      go_cut [213] (fun x wx => x = .bool (decide (mid < e ∧ e < b)) ∧ W3 = wx)
      case first => as_aux_lemma =>
        by_cases c1 : mid < e
        · by_cases c2 : e < b
          · have c3 : decide (mid < e ∧ e < b) = true := decide_eq_true ⟨c1, c2⟩
            have C3 := Lib.hid c3
            clear c3
            go_wp2_with fail
            go_meet
            exact ⟨congrArg Value.bool C3.out.symm, rfl⟩
          · have c3 : decide (mid < e ∧ e < b) = false := decide_eq_false (fun h => c2 h.2)
            have C3 := Lib.hid c3
            clear c3
            go_wp2_with fail
            go_meet
            exact ⟨congrArg Value.bool C3.out.symm, rfl⟩
        · have c3 : decide (mid < e ∧ e < b) = false := decide_eq_false (fun h => c1 h.1)
          have C3 := Lib.hid c3
          clear c3
          go_wp2_with fail
          go_meet
          exact ⟨congrArg Value.bool C3.out.symm, rfl⟩
      obtain ⟨rfl, rfl⟩ := hcut
      by_cases c1 : mid < e ∧ e < b
      · have c2 : decide (mid < e ∧ e < b) = true := decide_eq_true c1
        rw [c2]
        go_wp2_with fail
        refine (HIH.out g c mid e b n rs _ (by omega) HFL.out HLL.out hm c1.1 c1.2 hb K1.out K2.out).mono ?_
        rintro ee w' ⟨rfl, ts, g1, g2, g3, g4⟩
        have G1 := Lib.hid g1; have G2 := Lib.hid g2; have G3 := Lib.hid g3; have G4 := Lib.hid g4
        clear g1 g2 g3 g4
        go_wp2_with fail
        go_end0
        exact ⟨rfl, ts, G1.out, (G2.out.wide (by omega) (Nat.le_refl _)).trans ((HPL.out.wide (Nat.le_refl _) (by omega)).trans D1.out), srt_halves D6.out HPL.out HSL.out G2.out G3.out, HCL.out.trans G4.out (by simp)⟩
      · have c2 : decide (mid < e ∧ e < b) = false := decide_eq_false c1
        rw [c2]
        go_wp2_with fail
        go_end0
        refine ⟨rfl, rs, HFL.out, (HPL.out.wide (Nat.le_refl _) (by omega)).trans D1.out, srt_halves D6.out HPL.out HSL.out (PermOn.refl _ _ _) ?_, HCL.out⟩
        by_cases c3 : mid < e
        · have : e = b := by omega
          rw [← this]; exact K1.out
        · have : e = mid := by omega
          rw [← this]; exact K2.out
end Go.Proofs.YtjcimajkjnjdpabGreatDoor

/- DERIVED. The stable sort of at most 39 files, walked. -/
namespace Go.Proofs.YtjcimajkjnjdpabGreatDoor
open Go.RowKit
set_option linter.unusedVariables false

theorem ins_at (g c a b n : Nat) (A B : Int) (ps : List Pr) (w : World) (hA : A = a) (hB : B = b) (hr : FlRow w g ps) (hn : n = ps.length) (hm : n ≤ 1000000) (hb : b ≤ n) (ha : a ≤ n) :
    Calls Tryz.prog 96 #[.slice (some ⟨g, 0, none⟩) n c, .int .i64 A, .int .i64 B, .func (.func 34) #[] #[]] w (SrtTo g ps a b w) := by
  subst hA; subst hB
  exact ins_any g c a b n ps w hr hn hm hb ha
theorem sym_at (g c a m b n : Nat) (A M B : Int) (ps : List Pr) (w : World) (hA : A = a) (hM : M = m) (hB : B = b) (hr : FlRow w g ps) (hn : n = ps.length) (hm : n ≤ 1000000) (h1 : a < m) (h2 : m < b) (hb : b ≤ n) (h3 : SrtOn ps a m) (h4 : SrtOn ps m b) :
    Calls Tryz.prog 97 #[.slice (some ⟨g, 0, none⟩) n c, .int .i64 A, .int .i64 M, .int .i64 B, .func (.func 34) #[] #[]] w (SrtTo g ps a b w) := by
  subst hA; subst hB; subst hM
  exact sym_any _ g c a m b n ps w (Nat.le_refl _) hr hn hm h1 h2 hb h3 h4
theorem SrtOn.more {ps : List Pr} {a b b' : Nat} (h : SrtOn ps a b) (hl : ps.length ≤ b) : SrtOn ps a b' := fun i j p q h1 h2 h3 hp hq => h i j p q h1 h2 (by have := (List.getElem?_eq_some_iff.1 hq).1; omega) hp hq
theorem SrtOn.kept {qs ps : List Pr} {a b k : Nat} (h : SrtOn ps a k) (hp : PermOn qs ps k b) : SrtOn qs a k := fun i j p q h1 h2 h3 hi hj => by
  rw [hp.2 i (.inl (by omega))] at hi
  rw [hp.2 j (.inl (by omega))] at hj
  exact h i j p q h1 h2 h3 hi hj
set_option maxRecDepth 100000 in
set_option maxHeartbeats 4000000 in
theorem stab_any (g c n : Nat) (ps : List Pr) (w : World) (hr : FlRow w g ps) (hn : n = ps.length) (hm : n ≤ 39) :
    Calls Tryz.prog 68 #[.slice (some ⟨g, 0, none⟩) n c, .int .i64 n, .func (.func 34) #[] #[]] w (SrtTo g ps 0 n w) := by
  have HR := Lib.hid hr; have HN := Lib.hid hn
  clear hr hn
  have hk0 : ¬ (40 : Int) ≤ n := by omega
  go_enter Tryz.func68, Tryz.ntmps68
  go_wp2_with fail
  go_loopw [7, 8] (fun x y wr => ∃ (k : Nat) (qs : List Pr), x = .int .i64 k ∧ y = .int .i64 (k + 20 : Nat) ∧ k ≤ 20 ∧ k ≤ n ∧ Hid (k = 0 ∨ k = 20) ∧ Hid (FlRow wr g qs) ∧ Hid (n = qs.length) ∧ Hid (PermOn qs ps 0 n) ∧ Hid (SrtOn qs 0 k) ∧ Hid (Ch [g] w wr)) (fun x _ _ => 40 - (intOf x).toNat)
  case atStart => exact ⟨0, ps, rfl, rfl, by omega, by omega, .inl rfl, HR.out, HN.out, PermOn.refl _ _ _, fun i j p q h1 h2 h3 => by omega, Ch.refl _ _⟩
  case round =>
    obtain ⟨k, qs, rfl, rfl, hk20, hkn, hk, hfl, hln, hpm, hso, hch⟩ := hrel
    by_cases hlt : k + 20 ≤ n
    · have hk2 : k = 0 := by rcases hk.out with h | h <;> omega
      subst hk2
      have h20 : (20 : Int) ≤ n := by omega
      go_wp2_with fail
      refine (ins_at g c 0 20 n _ _ qs _ rfl rfl hfl.out hln.out (by omega) (by omega) (by omega)).mono ?_
      rintro e w' ⟨rfl, rs, g1, g2, g3, g4⟩
      have G1 := Lib.hid g1; have G2 := Lib.hid g2; have G3 := Lib.hid g3; have G4 := Lib.hid g4
      clear g1 g2 g3 g4
      go_wp2_with fail
      go_roundw
      case rel => exact ⟨20, rs, rfl, rfl, Nat.le_refl _, by omega, .inr rfl, G1, by rw [hln.out]; exact G2.out.length.symm, (G2.out.wide (Nat.le_refl _) (by omega)).trans hpm.out, G3, hch.out.trans G4.out (by simp)⟩
      case measure => simp [intOf]
    · have h20 : ¬ ((k : Int) + 20) ≤ n := by omega
      go_wp2_with fail
      refine (ins_at g c k n n _ _ qs _ rfl rfl hfl.out hln.out (by omega) (Nat.le_refl _) hkn).mono ?_
      rintro e w' ⟨rfl, rs, g1, g2, g3, g4⟩
      have G1 := Lib.hid g1
      have GL := Lib.hid (show n = rs.length by rw [hln.out]; exact g2.length.symm)
      have S1 := Lib.hid (show SrtOn rs 0 20 by
        rcases hk.out with h | h
        · rw [h] at g3
          exact g3.more (by rw [← GL.out]; exact Nat.le_refl _)
        · have := hso.out.kept g2
          rw [h] at this
          exact this)
      have S2 := Lib.hid (show SrtOn rs 20 n by
        rcases hk.out with h | h
        · exact fun i j p q h1 h2 h3 => by omega
        · rw [h] at g3; exact g3)
      have G4 := Lib.hid (hch.out.trans g4 (by simp))
      have GP := Lib.hid ((g2.wide (Nat.zero_le _) (Nat.le_refl _)).trans hpm.out)
      clear g1 g2 g3 g4 hso hpm hfl hch hln
      go_wp2_with fail
      go_loopw [6, 7, 8] (fun z _ _ wr => ∃ (bs : Nat) (ts : List Pr), z = .int .i64 bs ∧ 20 ≤ bs ∧ bs ≤ 40 ∧ Hid (bs = 20 ∨ bs = 40) ∧ Hid (FlRow wr g ts) ∧ Hid (n = ts.length) ∧ Hid (PermOn ts ps 0 n) ∧ Hid (SrtOn ts 0 bs) ∧ Hid (SrtOn ts bs n) ∧ Hid (Ch [g] w wr)) (fun z _ _ _ => 40 - (intOf z).toNat)
      case atStart => exact ⟨20, rs, rfl, Nat.le_refl _, by omega, .inl rfl, G1, GL, GP, S1, S2, G4⟩
      case round =>
        obtain ⟨bs, ts, rfl, hb20, hb40, hbs, hfl, hln, hpm, hs1, hs2, hch⟩ := hrel
        by_cases hbn : bs < n
        · have hb2 : bs = 20 := by rcases hbs.out with h | h <;> omega
          subst hb2
          have h21 : (20 : Int) < n := by omega
          go_wp2_with fail
          go_loopw [7, 8] (fun x y wv => x = .int .i64 0 ∧ y = .int .i64 40 ∧ wv = wr) (fun x _ _ => 0)
          case atStart => exact ⟨rfl, rfl, rfl⟩
          case round =>
            obtain ⟨rfl, rfl, rfl⟩ := hrel
            go_wp2_with fail
            refine (sym_at g c 0 20 n n _ _ _ ts _ rfl rfl rfl hfl.out hln.out (by omega) (by omega) (by omega) (Nat.le_refl _) hs1.out hs2.out).mono ?_
            rintro e w' ⟨rfl, us, g1, g2, g3, g4⟩
            have G1 := Lib.hid g1; have G2 := Lib.hid g2; have G3 := Lib.hid g3; have G4 := Lib.hid g4
            clear g1 g2 g3 g4
            go_wp2_with fail
            go_roundw
            case rel => exact ⟨40, us, rfl, by omega, Nat.le_refl _, .inr rfl, G1, by rw [hln.out]; exact G2.out.length.symm, G2.out.trans hpm.out, G3.out.more (by rw [G2.out.length, ← hln.out]; exact Nat.le_refl _), fun i j p q h1 h2 h3 => by omega, hch.out.trans G4.out (by simp)⟩
            case measure => simp [intOf]
        · go_wp2_with fail
          go_end0
          exact ⟨rfl, ts, hfl.out, hpm.out, hs1.out.less (by omega), hch.out⟩
set_option maxHeartbeats 1000000 in
theorem sort_any (g c n : Nat) (ps : List Pr) (w : World) (hr : FlRow w g ps) (hn : n = ps.length) (hm : n ≤ 39) :
    Calls Tryz.prog 46 #[.slice (some ⟨g, 0, none⟩) n c, .func (.func 34) #[] #[]] w (SrtTo g ps 0 n w) := by
  have HR := Lib.hid hr; have HN := Lib.hid hn
  clear hr hn
  go_enter Tryz.func46, Tryz.ntmps46
  go_wp2_with fail
  refine (stab_any g c n ps _ HR.out HN.out hm).mono ?_
  rintro e w' ⟨rfl, rs, g1, g2, g3, g4⟩
  have G1 := Lib.hid g1; have G2 := Lib.hid g2; have G3 := Lib.hid g3; have G4 := Lib.hid g4
  clear g1 g2 g3 g4
  go_wp2_with fail
  go_end0
  exact ⟨rfl, rs, G1.out, G2.out, G3.out, G4.out⟩
end Go.Proofs.YtjcimajkjnjdpabGreatDoor
