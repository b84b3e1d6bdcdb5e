/- DERIVED. The merge in place, walked. (Printed by symgen.py.) -/
import Derived.Test.YtjcimajkjnjdpaaDoorSortRotW
import Derived.Test.YtjcimajkjnjdpaaDoorSortSym
namespace Go.Proofs.YtjcimajkjnjdpaaDoor
open Go.RowKit
set_option linter.unusedVariables false

def SrtTo (g : Nat) (ps : List Pr) (a b : Nat) (w : World) (e : Ending) (w' : World) : Prop := e = .returned (.tuple #[]) ∧ ∃ qs, FlRow w' g qs ∧ PermOn qs ps a b ∧ SrtOn qs a b ∧ Ch [g] w w'
set_option maxRecDepth 100000 in
set_option maxHeartbeats 4000000 in
theorem sym_one (g c a b n : Nat) (rs : List Pr) (w : World) (hr : FlRow w g rs) (hn : n = rs.length) (hm : n ≤ 1000000) (hmb : a + 1 < b) (hb : b ≤ n) (h1 : SrtOn rs a (a + 1)) (h2 : SrtOn rs (a + 1) b) :
    Calls Tryd.prog 50 #[.slice (some ⟨g, 0, none⟩) n c, .int .i64 a, .int .i64 (a + 1 : Nat), .int .i64 b, .func (.func 16) #[] #[]] w (SrtTo g rs a b w) := by
  have HR := Lib.hid hr; have hln := Lib.hid hn; have HS1 := Lib.hid h1; have HS2 := Lib.hid h2
  clear hr hn h1 h2
  go_enter Tryd.func50, Tryd.ntmps50
  go_wp2_with fail
  go_loopw [10, 11] (fun x y wr => ∃ (i j : Nat), x = .int .i64 i ∧ y = .int .i64 j ∧ a + 1 ≤ i ∧ i ≤ j ∧ j ≤ b ∧ Hid (FlRow wr g rs) ∧ Hid (i = a + 1 ∨ leAt rs (i - 1) a) ∧ Hid (j = b ∨ leAt rs a j) ∧ Hid (Ch [g] w wr)) (fun x y _ => (intOf y).toNat - (intOf x).toNat)
  case atStart => exact ⟨a + 1, b, by go_num, rfl, Nat.le_refl _, by omega, Nat.le_refl _, HR.out, .inl rfl, .inl rfl, Ch.refl _ _⟩
  case round =>
    obtain ⟨i, j, rfl, rfl, hai, hij, hjb, hfl, hlo, hhi, hch⟩ := hrel
    by_cases hlt : i < j
    · -- one comparison
      have hrl : rs.length = n := by rw [← hln.out]
      obtain ⟨p, hp⟩ : ∃ p, rs[(i + j) / 2]? = some p := ⟨_, List.getElem?_eq_getElem (by omega)⟩
      obtain ⟨q, hq⟩ : ∃ q, rs[a]? = some q := ⟨_, List.getElem?_eq_getElem (by omega)⟩
      obtain ⟨ι, F, hF0, hFB, hFG⟩ := below_fam wr
      have hcF : ∀ a v, wr.cell? a = some v → ∀ n, (F n).cell? a = some v := fun a v h n => below_keeps (hFB n) _ _ h
      have p0 := hcF _ _ (hfl.out.cell hp).1
      have p1 := hcF _ _ (hfl.out.cell hp).2
      have q0 := hcF _ _ (hfl.out.cell hq).1
      have q1 := hcF _ _ (hfl.out.cell hq).2
      obtain ⟨z, hz⟩ : ∃ z, z = Lib.compareBytes p.1 q.1 := ⟨_, rfl⟩
      have hcall : ∀ n, Calls Tryd.prog 16 #[.agg #[strV p.1, strV p.2], .agg #[strV q.1, strV q.2]] (F n) (fun e w' => e = .returned (.int .i64 z) ∧ ∃ m, w' = F m) :=
        calls_fam hFB hFG fun W hW => by rw [hz]; exact byPath_any p q W
      obtain ⟨P1, hP1⟩ : ∃ x : ByteArray, strV p.1 = .string x := ⟨_, rfl⟩
      obtain ⟨P2, hP2⟩ : ∃ x : ByteArray, strV p.2 = .string x := ⟨_, rfl⟩
      obtain ⟨Q1, hQ1⟩ : ∃ x : ByteArray, strV q.1 = .string x := ⟨_, rfl⟩
      obtain ⟨Q2, hQ2⟩ : ∃ x : ByteArray, strV q.2 = .string x := ⟨_, rfl⟩
      rw [hP1] at p0 hcall; rw [hP2] at p1 hcall; rw [hQ1] at q0 hcall; rw [hQ2] at q1 hcall
      have HCALL := Lib.hid hcall; have HF0 := Lib.hid hF0; have HFB := Lib.hid hFB
      have HP := Lib.hid hp; have HQ := Lib.hid hq; have HZ := Lib.hid hz
      have hjn1 : (i + j) / 2 < n := by omega
      have hjn2 : a < n := by omega
      clear hcall hF0 hFB hFG hcF hp hq hz hP1 hP2 hQ1 hQ2 hrl
      go_wp2_with fail
      obtain ⟨n0, hn0⟩ := HF0.out 1
      have hne : Nonempty ι := ⟨n0⟩
      refine wp_region_fam F n0 hn0 (by kernel_rfl) (by kernel_rfl) ?_
      repeat (go_big_quiet_step ((go_at_call 16; exact HCALL.out _)))
      refine wpQuiet_nil ?_
      intro _ hw'
      obtain ⟨m0, hw''⟩ := hw'
      subst hw''
      have hzl := cmp_less p.1 q.1
      rw [← HZ.out] at hzl
      have hB1 := HFB.out m0
      clear p0 p1 q0 q1
      obtain ⟨W1, hW1⟩ : ∃ W1, W1 = F m0 := ⟨_, rfl⟩
      rw [← hW1] at hB1 ⊢
      have HF1 := Lib.hid (hfl.out.keep (hB1.block g hfl.out.lt))
      have HC1 := Lib.hid (hch.out.trans (Ch.of_below hB1 []) (by simp))
      clear hB1 hW1 HFB HF0 HCALL
      by_cases hz0 : z < 0
      · have hless : leF p q := leF.of_less (by rw [← hzl]; simpa using hz0)
        have HLE := Lib.hid (leAt.of HP.out HQ.out hless)
        clear hless hzl
        go_wp2_with fail
        go_roundw
        case rel => exact ⟨(i + j) / 2 + 1, j, by go_num, rfl, by omega, by omega, hjb, HF1, .inr (by rw [Nat.add_sub_cancel]; exact HLE.out), hhi, HC1⟩
        case measure => simp [intOf]; omega
      · have hless : leF q p := by unfold leF; rw [← hzl]; simpa using hz0
        have HLE := Lib.hid (leAt.of HQ.out HP.out hless)
        clear hless hzl
        go_wp2_with fail
        go_roundw
        case rel => exact ⟨i, (i + j) / 2, rfl, by go_num, hai, by omega, by omega, HF1, hlo, .inr HLE.out, HC1⟩
        case measure => simp [intOf]; omega
    · obtain rfl : i = j := by omega
      go_wp2_with fail
      go_loopw [13] (fun x wr => ∃ (k : Nat) (qs : List Pr), x = .int .i64 k ∧ a ≤ k ∧ k + 1 ≤ i ∧ Hid (FlRow wr g qs) ∧ Hid (n = qs.length) ∧ Hid (MvU qs rs a k) ∧ Hid (Ch [g] w wr)) (fun x _ => i - (intOf x).toNat)
      case atStart => exact ⟨a, rs, rfl, Nat.le_refl _, hai, hfl, hln, MvU.start _ _, hch⟩
      case round =>
        obtain ⟨k, qs, rfl, hak0, hki, hfl2, hln2, hmv, hch2⟩ := hrel
        have HOLD := hln; clear hln; have hln := hln2
        by_cases hlt2 : k + 1 < i
        · have hlt3 : (k : Int) < (i : Int) - 1 := by omega
          have hrl : qs.length = n := by rw [← hln.out]
          obtain ⟨p, hp⟩ : ∃ p, qs[k]? = some p := ⟨_, List.getElem?_eq_getElem (by omega)⟩
          obtain ⟨q, hq⟩ : ∃ q, qs[k + 1]? = some q := ⟨_, List.getElem?_eq_getElem (by omega)⟩
          obtain ⟨p0, p1⟩ := hfl2.out.cell hp
          obtain ⟨q0, q1⟩ := hfl2.out.cell hq
          have fz := hfl2.out.frozen
          have hs := hfl2.out.swap hp hq
          have HMV := Lib.hid (hmv.out.step hak0 hp hq)
          obtain ⟨P1, hP1⟩ : ∃ x : ByteArray, strV p.1 = .string x := ⟨_, rfl⟩
          obtain ⟨P2, hP2⟩ : ∃ x : ByteArray, strV p.2 = .string x := ⟨_, rfl⟩
          obtain ⟨Q1, hQ1⟩ : ∃ x : ByteArray, strV q.1 = .string x := ⟨_, rfl⟩
          obtain ⟨Q2, hQ2⟩ : ∃ x : ByteArray, strV q.2 = .string x := ⟨_, rfl⟩
          rw [hP1, hP2, hQ1, hQ2] at hs
          rw [hP1] at p0; rw [hP2] at p1; rw [hQ1] at q0; rw [hQ2] at q1
          have HFL := Lib.hid hs.drew
          have HLN := Lib.hid (show n = (swpF qs k (k + 1) p q).length from by rw [swpF_length]; exact hrl.symm)
          have HCH := Lib.hid (((((hch2.out.setCell (p := ⟨g, k * 2, none⟩) (.inl (by simp)) (.string Q1)).setCell (p := ⟨g, k * 2 + 1, none⟩) (.inl (by simp)) (.string Q2)).setCell (p := ⟨g, (k + 1) * 2, none⟩) (.inl (by simp)) (.string P1)).setCell (p := ⟨g, (k + 1) * 2 + 1, none⟩) (.inl (by simp)) (.string P2)).drew)
          have hak : k < n := by omega
          have hbk : k + 1 < n := by omega
          clear hs hp hq hrl hP1 hP2 hQ1 hQ2
          go_wp2_with fail
          go_big_region
          clear p0 p1 q0 q1 fz
          go_wp2_with fail
          go_roundw
          case rel => exact ⟨k + 1, _, by go_num, by omega, by omega, HFL, HLN, HMV, HCH⟩
          case measure => simp [intOf]; omega
        · have hlt3 : ¬ (k : Int) < (i : Int) - 1 := by omega
          obtain rfl : k = i - 1 := by omega
          go_wp2_with fail
          go_end0
          obtain ⟨d1, d2⟩ := hmv.out.done HS2.out (by rw [← HOLD.out]; exact hb) hai hjb hlo.out hhi.out
          exact ⟨rfl, qs, hfl2.out, d1, d2, hch2.out⟩
end Go.Proofs.YtjcimajkjnjdpaaDoor
