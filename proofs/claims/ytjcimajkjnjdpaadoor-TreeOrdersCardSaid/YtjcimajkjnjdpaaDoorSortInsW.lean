/- DERIVED. The insertion sort's walk. -/
import Derived.Test.YtjcimajkjnjdpaaDoorSortIns
namespace Go.Proofs.YtjcimajkjnjdpaaDoor
open Go.RowKit
set_option linter.unusedVariables false

theorem SrtOn.less {ps : List Pr} {a b b' : Nat} (h : SrtOn ps a b) (hb : b' ≤ b) : SrtOn ps a b' := fun i j p q h1 h2 h3 hp hq => h i j p q h1 h2 (by omega) hp hq
theorem SrtOn.one (ps : List Pr) (a : Nat) : SrtOn ps a (a + 1) := fun i j p q h1 h2 h3 => by omega
theorem InsI.swap' {qs : List Pr} {a i j : Nat} {p q : Pr} (h : InsI qs a i j) (haj : a < j) (hji : j ≤ i) (hp : qs[j]? = some p) (hq : qs[j - 1]? = some q) (hl : Op.bytesLess p.1 q.1 = true) : InsI (swpF qs j (j - 1) p q) a i (j - 1) := by
  obtain ⟨j', rfl⟩ : ∃ j', j = j' + 1 := ⟨j - 1, by omega⟩
  rw [Nat.add_sub_cancel] at hq ⊢
  exact h.swap (by omega) hji hp hq hl
theorem FlRow.drew {w : World} {g : Nat} {ps : List Pr} (h : FlRow w g ps) : FlRow w.drew g ps := h
theorem FlRow.swap {w : World} {g j j' : Nat} {ps : List Pr} {p q : Pr} (h : FlRow w g ps) (hp : ps[j]? = some p) (hq : ps[j']? = some q) :
    FlRow ((((w.setCell ⟨g, j * 2, none⟩ (strV q.1)).setCell ⟨g, j * 2 + 1, none⟩ (strV q.2)).setCell ⟨g, j' * 2, none⟩ (strV p.1)).setCell ⟨g, j' * 2 + 1, none⟩ (strV p.2)) g (swpF ps j j' p q) := by
  obtain ⟨h1, _⟩ := List.getElem?_eq_some_iff.1 hp
  obtain ⟨h2, _⟩ := List.getElem?_eq_some_iff.1 hq
  exact (h.put h1 q).put (by rw [List.length_set]; exact h2) p
set_option maxRecDepth 100000 in
set_option maxHeartbeats 4000000 in
theorem ins_any (g c a b n : Nat) (ps : List Pr) (w : World) (hr : FlRow w g ps) (hn : n = ps.length) (hm : n ≤ 1000000) (hb : b ≤ n) (ha : a ≤ n) :
    Calls Tryd.prog 49 #[.slice (some ⟨g, 0, none⟩) n c, .int .i64 a, .int .i64 b, .func (.func 16) #[] #[]] w (fun e w' => e = .returned (.tuple #[]) ∧ ∃ qs, FlRow w' g qs ∧ PermOn qs ps a b ∧ SrtOn qs a b ∧ Ch [g] w w') := by
  have HR := Lib.hid hr; have HN := Lib.hid hn
  clear hr hn
  go_enter Tryd.func49, Tryd.ntmps49
  go_wp2_with fail
  go_loopw [8] (fun x wr => ∃ (k : Nat) (qs : List Pr), x = .int .i64 k ∧ a + 1 ≤ k ∧ k ≤ n + 1 ∧ Hid (k ≤ b ∨ k = a + 1) ∧ Hid (FlRow wr g qs) ∧ Hid (PermOn qs ps a b) ∧ Hid (SrtOn qs a k) ∧ Hid (Ch [g] w wr)) (fun x _ => b - (intOf x).toNat)
  case atStart => exact ⟨a + 1, ps, by go_num, Nat.le_refl _, by omega, .inr rfl, HR.out, PermOn.refl _ _ _, SrtOn.one _ _, Ch.refl _ _⟩
  case round =>
    obtain ⟨k, qs, rfl, hak, hkn, hkb, hfl, hpm, hso, hch⟩ := hrel
    by_cases hlt : k < b
    · go_wp2_with fail
      go_loopw [9] (fun x wr => ∃ (j : Nat) (rs : List Pr), x = .int .i64 j ∧ a ≤ j ∧ j ≤ k ∧ Hid (FlRow wr g rs) ∧ Hid (PermOn rs ps a b) ∧ Hid (InsI rs a k j) ∧ Hid (Ch [g] w wr)) (fun x _ => (intOf x).toNat)
      case atStart => exact ⟨k, qs, rfl, by omega, Nat.le_refl _, hfl, hpm, InsI.start hso.out, hch⟩
      case round =>
        obtain ⟨j, rs, rfl, haj, hjk, hfl2, hpm2, hin, hch2⟩ := hrel
        rename_i W _
        by_cases hja : a < j
        · have hrl : rs.length = n := by rw [hpm2.out.1.length_eq, ← HN.out]
          obtain ⟨p, hp⟩ : ∃ p, rs[j]? = some p := ⟨_, List.getElem?_eq_getElem (by omega)⟩
          obtain ⟨q, hq⟩ : ∃ q, rs[j - 1]? = some q := ⟨_, List.getElem?_eq_getElem (by omega)⟩
          obtain ⟨ι, F, hF0, hFB, hFG⟩ := below_fam wr
          have hcF : ∀ a v, wr.cell? a = some v → ∀ n, (F n).cell? a = some v := fun a v h n => below_keeps (hFB n) _ _ h
          have p0 := hcF _ _ (hfl2.out.cell hp).1
          have p1 := hcF _ _ (hfl2.out.cell hp).2
          have q0 := hcF _ _ (hfl2.out.cell hq).1
          have q1 := hcF _ _ (hfl2.out.cell hq).2
          obtain ⟨z, hz⟩ : ∃ z, z = Lib.compareBytes p.1 q.1 := ⟨_, rfl⟩
          have hcall : ∀ n, Calls Tryd.prog 16 #[.agg #[strV p.1, strV p.2], .agg #[strV q.1, strV q.2]] (F n) (fun e w' => e = .returned (.int .i64 z) ∧ ∃ m, w' = F m) :=
            calls_fam hFB hFG fun W hW => by rw [hz]; exact byPath_any p q W
          obtain ⟨P1, hP1⟩ : ∃ x : ByteArray, strV p.1 = .string x := ⟨_, rfl⟩
          obtain ⟨P2, hP2⟩ : ∃ x : ByteArray, strV p.2 = .string x := ⟨_, rfl⟩
          obtain ⟨Q1, hQ1⟩ : ∃ x : ByteArray, strV q.1 = .string x := ⟨_, rfl⟩
          obtain ⟨Q2, hQ2⟩ : ∃ x : ByteArray, strV q.2 = .string x := ⟨_, rfl⟩
          rw [hP1] at p0 hcall; rw [hP2] at p1 hcall; rw [hQ1] at q0 hcall; rw [hQ2] at q1 hcall
          have HCALL := Lib.hid hcall; have HF0 := Lib.hid hF0; have HFB := Lib.hid hFB
          have HP := Lib.hid hp; have HQ := Lib.hid hq; have HZ := Lib.hid hz
          have HPV := Lib.hid (And.intro hP1 (And.intro hP2 (And.intro hQ1 hQ2)))
          have hjn : j < n := by omega
          clear hcall hF0 hFB hFG hcF hp hq hz hP1 hP2 hQ1 hQ2 hrl
          go_wp2_with fail
          obtain ⟨n0, hn0⟩ := HF0.out 1
          have hne : Nonempty ι := ⟨n0⟩
          refine wp_region_fam F n0 hn0 (by kernel_rfl) (by kernel_rfl) ?_
          repeat (go_big_quiet_step ((go_at_call 16; exact HCALL.out _)))
          refine wpQuiet_nil ?_
          intro _ hw'
          obtain ⟨m0, hw''⟩ := hw'
          subst hw''
          have hzl := cmp_less p.1 q.1
          rw [← HZ.out] at hzl
          have hB1 := HFB.out m0
          replace p0 := p0 m0; replace p1 := p1 m0; replace q0 := q0 m0; replace q1 := q1 m0
          obtain ⟨W1, hW1⟩ : ∃ W1, W1 = F m0 := ⟨_, rfl⟩
          rw [← hW1] at hB1 p0 p1 q0 q1 ⊢
          have hF1 := hfl2.out.keep (hB1.block g hfl2.out.lt)
          have HF1 := Lib.hid hF1; have HC1 := Lib.hid (hch2.out.trans (Ch.of_below hB1 []) (by simp))
          have fz := hF1.frozen
          clear hB1 hW1 HFB HF0 HCALL hF1
          by_cases hz0 : z < 0
          · have hless : Op.bytesLess p.1 q.1 = true := by rw [← hzl]; simpa using hz0
            have HIN := Lib.hid (InsI.swap' hin.out hja hjk HP.out HQ.out hless)
            have HPM := Lib.hid ((swpF_on HP.out HQ.out (by omega : a ≤ j) (by omega : j < b) (by omega) (by omega)).trans hpm2.out)
            have hsw := HF1.out.swap HP.out HQ.out
            rw [HPV.out.1, HPV.out.2.1, HPV.out.2.2.1, HPV.out.2.2.2] at hsw
            have HSW := Lib.hid hsw
            clear hsw hless hzl
            go_wp2_with fail
            go_big_region
            have HFL := Lib.hid HSW.out.drew
            have HCH := Lib.hid (((((HC1.out.setCell (p := ⟨g, j * 2, none⟩) (.inl (by simp)) (.string Q1)).setCell (p := ⟨g, j * 2 + 1, none⟩) (.inl (by simp)) (.string Q2)).setCell (p := ⟨g, (j - 1) * 2, none⟩) (.inl (by simp)) (.string P1)).setCell (p := ⟨g, (j - 1) * 2 + 1, none⟩) (.inl (by simp)) (.string P2)).drew)
            clear HSW HC1 p0 p1 q0 q1 fz
            go_wp2_with fail
            go_roundw
            case rel => exact ⟨j - 1, _, by rw [show ((j - 1 : Nat) : Int) = (j : Int) - 1 by omega], by omega, by omega, HFL, HPM, HIN, HCH⟩
            case measure => simp [intOf]; omega
          · have hless : leF q p := by unfold leF; rw [← hzl]; simpa using hz0
            have HSO := Lib.hid (InsI.done hin.out hjk (.inr ⟨j - 1, q, p, by omega, by omega, HQ.out, HP.out, hless⟩))
            clear hless hzl p0 p1 q0 q1
            go_wp2_with fail
            go_roundw
            case rel => exact ⟨k + 1, rs, by go_num, by omega, by omega, .inl (by omega), HF1, hpm2, HSO, HC1⟩
            case measure => simp [intOf]; omega
        · obtain rfl : j = a := by omega
          have HSO := Lib.hid (InsI.done hin.out hjk (.inl rfl))
          obtain ⟨ι, F, hF0, hFB, hFG⟩ := below_fam wr
          have HF0 := Lib.hid hF0; have HFB := Lib.hid hFB
          clear hF0 hFB hFG
          go_wp2_with fail
          obtain ⟨n0, hn0⟩ := HF0.out 1
          have hne : Nonempty ι := ⟨n0⟩
          refine wp_region_fam F n0 hn0 (by kernel_rfl) (by kernel_rfl) ?_
          repeat (go_big_quiet_step (fail))
          refine wpQuiet_nil ?_
          intro _ hw'
          obtain ⟨m0, hw''⟩ := hw'
          subst hw''
          have hB1 := HFB.out m0
          have HF1 := Lib.hid (hfl2.out.keep (hB1.block g hfl2.out.lt))
          have HC1 := Lib.hid (hch2.out.trans (Ch.of_below hB1 []) (by simp))
          clear hB1
          go_wp2_with fail
          go_roundw
          case rel => exact ⟨k + 1, rs, by go_num, by omega, by omega, .inl (by omega), HF1, hpm2, HSO, HC1⟩
          case measure => simp [intOf]; omega
    · go_wp2_with fail
      go_end0
      exact ⟨rfl, qs, hfl.out, hpm.out, hso.out.less (by omega), hch.out⟩
end Go.Proofs.YtjcimajkjnjdpaaDoor
