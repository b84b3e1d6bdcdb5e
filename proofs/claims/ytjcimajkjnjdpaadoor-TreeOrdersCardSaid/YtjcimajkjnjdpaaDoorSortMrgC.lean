/- DERIVED. The merge in place, walked. (Printed by symgen.py.) -/
import Derived.Test.YtjcimajkjnjdpaaDoorSortMrgB
import Derived.Deep.DeepCutAuto
namespace Go.Proofs.YtjcimajkjnjdpaaDoor
open Go.RowKit
set_option linter.unusedVariables false

set_option maxRecDepth 100000 in
set_option maxHeartbeats 8000000 in
theorem sym_any : ∀ (N g c a m b n : Nat) (ps : List Pr) (w : World), b - a ≤ N → FlRow w g ps → n = ps.length → n ≤ 1000000 → a < m → m < b → b ≤ n → SrtOn ps a m → SrtOn ps m b →
    Calls Tryd.prog 50 #[.slice (some ⟨g, 0, none⟩) n c, .int .i64 a, .int .i64 m, .int .i64 b, .func (.func 16) #[] #[]] w (SrtTo g ps a b w) := by
  intro N
  induction N with
  | zero => intro g c a m b n ps w h; omega
  | succ N ih =>
  intro g c a m b n ps w hN hr hn hm ham hmb hb h1 h2
  by_cases e1 : m = a + 1
  · subst e1; exact sym_one g c a b n ps w hr hn hm hmb hb h1 h2
  by_cases e2 : b = m + 1
  · subst e2; exact sym_last g c a m n ps w hr hn hm (by omega) hb h1 h2
  have hne1 : ((m : Int) - a == 1) = false := beq_eq_false_iff_ne.2 (by omega)
  have hne2 : ((b : Int) - m == 1) = false := beq_eq_false_iff_ne.2 (by omega)
  obtain ⟨mid, hmid⟩ : ∃ mid, mid = (a + b) / 2 := ⟨_, rfl⟩
  have hm1 : a < mid := by omega
  have hm2 : mid < b := by omega
  have hmI : ((a : Int) + b) / 2 = mid := by omega
  have hm3 : 2 * mid ≤ a + b := by omega
  have hm4 : a + b ≤ 2 * mid + 1 := by omega
  clear hmid
  obtain ⟨pp, hpp⟩ : ∃ pp, pp + 1 = mid + m := ⟨mid + m - 1, by omega⟩
  have hpI : ((mid : Int) + m) - 1 = pp := by omega
  have hp1 : pp + 1 ≤ mid + m := by omega
  have hp2 : mid + m ≤ pp + 1 := by omega
  clear hpp
  have HIH := Lib.hid ih
  have HMI := Lib.hid hmI; have HPI := Lib.hid hpI
  clear ih hmI hpI
  have HR := Lib.hid hr; have hln := Lib.hid hn; have HS1 := Lib.hid h1; have HS2 := Lib.hid h2
  clear hr hn h1 h2
  go_enter Tryd.func50, Tryd.ntmps50
  go_upto_if 140 with fail
  rw [HMI.out]
  go_cut [20, 21] (fun x y wx => ∃ (s r : Nat), x = .int .i64 s ∧ y = .int .i64 r ∧ a ≤ s ∧ s ≤ r ∧ r ≤ m ∧ r ≤ mid ∧ mid + m ≤ s + b ∧ (s = a ∨ s + b = mid + m) ∧ (r = m ∨ r = mid) ∧ w = wx)
  case first =>
    by_cases hgm : mid < m
    · go_wp2_with fail
      go_meet
      exact ⟨mid + m - b, mid, by rw [show ((mid + m - b : Nat) : Int) = (mid : Int) + m - b by omega], rfl, by omega, by omega, by omega, by omega, by omega, .inr (by omega), .inr rfl, rfl⟩
    · go_wp2_with fail
      go_meet
      exact ⟨a, m, rfl, rfl, by omega, by omega, by omega, by omega, by omega, .inl rfl, .inl rfl, rfl⟩
  obtain ⟨s0, r0, rfl, rfl, hs1, hsr, hrm, hrd, hsb, hs0, hr0, rfl⟩ := hcut
  have HS0 := Lib.hid hs0; have HR0 := Lib.hid hr0
  clear hs0 hr0
  go_wp2_with fail
  rw [HPI.out]
  go_loopw [20, 21] (fun x y wr => ∃ (s r : Nat), x = .int .i64 s ∧ y = .int .i64 r ∧ a ≤ s ∧ s ≤ r ∧ r ≤ m ∧ r ≤ mid ∧ mid + m ≤ s + b ∧ Hid (FlRow wr g ps) ∧ Hid (s = a ∨ mid + m - s = b ∨ leAt ps (s - 1) (mid + m - s)) ∧ Hid (r = m ∨ mid + m - r = m ∨ leAt ps (mid + m - r - 1) r) ∧ Hid (Ch [g] w wr)) (fun x y _ => (intOf y).toNat - (intOf x).toNat)
  case atStart => exact ⟨s0, r0, rfl, rfl, hs1, hsr, hrm, hrd, hsb, HR.out, HS0.out.elim .inl (fun h => .inr (.inl (by omega))), HR0.out.elim .inl (fun h => .inr (.inl (by omega))), Ch.refl _ _⟩
  case round =>
    obtain ⟨s, r, rfl, rfl, hs1, hsr, hrm, hrd, hsb, hfl, hlo, hhi, hch⟩ := hrel
    by_cases hlt : s < r
    · obtain ⟨cc, hcc⟩ : ∃ cc, cc = (s + r) / 2 := ⟨_, rfl⟩
      have hcI : ((s : Int) + r) / 2 = cc := by omega
      have hc1 : s ≤ cc := by omega
      have hc2 : cc < r := by omega
      clear hcc
      have hrl : ps.length = n := by rw [← hln.out]
      obtain ⟨p, hp⟩ : ∃ p, ps[pp - cc]? = some p := ⟨_, List.getElem?_eq_getElem (by omega)⟩
      obtain ⟨q, hq⟩ : ∃ q, ps[cc]? = some q := ⟨_, List.getElem?_eq_getElem (by omega)⟩
      obtain ⟨ι, F, hF0, hFB, hFG⟩ := below_fam wr
      have hcF : ∀ a v, wr.cell? a = some v → ∀ n, (F n).cell? a = some v := fun a v h n => below_keeps (hFB n) _ _ h
      have p0 := hcF _ _ (hfl.out.cell hp).1
      have p1 := hcF _ _ (hfl.out.cell hp).2
      have q0 := hcF _ _ (hfl.out.cell hq).1
      have q1 := hcF _ _ (hfl.out.cell hq).2
      obtain ⟨z, hz⟩ : ∃ z, z = Lib.compareBytes p.1 q.1 := ⟨_, rfl⟩
      have hcall : ∀ n, Calls Tryd.prog 16 #[.agg #[strV p.1, strV p.2], .agg #[strV q.1, strV q.2]] (F n) (fun e w' => e = .returned (.int .i64 z) ∧ ∃ m, w' = F m) :=
        calls_fam hFB hFG fun W hW => by rw [hz]; exact byPath_any p q W
      obtain ⟨P1, hP1⟩ : ∃ x : ByteArray, strV p.1 = .string x := ⟨_, rfl⟩
      obtain ⟨P2, hP2⟩ : ∃ x : ByteArray, strV p.2 = .string x := ⟨_, rfl⟩
      obtain ⟨Q1, hQ1⟩ : ∃ x : ByteArray, strV q.1 = .string x := ⟨_, rfl⟩
      obtain ⟨Q2, hQ2⟩ : ∃ x : ByteArray, strV q.2 = .string x := ⟨_, rfl⟩
      rw [hP1] at p0 hcall; rw [hP2] at p1 hcall; rw [hQ1] at q0 hcall; rw [hQ2] at q1 hcall
      have HCALL := Lib.hid hcall; have HF0 := Lib.hid hF0; have HFB := Lib.hid hFB
      have HP := Lib.hid hp; have HQ := Lib.hid hq; have HZ := Lib.hid hz
      have hjn1 : pp - cc < n := by omega
      have hjn2 : cc < n := by omega
      clear hcall hF0 hFB hFG hcF hp hq hz hP1 hP2 hQ1 hQ2 hrl
      go_wp2_with fail
      clear hcI
      obtain ⟨n0, hn0⟩ := HF0.out 1
      have hne : Nonempty ι := ⟨n0⟩
      refine wp_region_fam F n0 hn0 (by kernel_rfl) (by kernel_rfl) ?_
      repeat (go_big_quiet_step ((go_at_call 16; exact HCALL.out _)))
      refine wpQuiet_nil ?_
      intro _ hw'
      obtain ⟨m0, hw''⟩ := hw'
      subst hw''
      have hzl := cmp_less p.1 q.1
      rw [← HZ.out] at hzl
      have hB1 := HFB.out m0
      clear p0 p1 q0 q1
      obtain ⟨W1, hW1⟩ : ∃ W1, W1 = F m0 := ⟨_, rfl⟩
      rw [← hW1] at hB1 ⊢
      have HF1 := Lib.hid (hfl.out.keep (hB1.block g hfl.out.lt))
      have HC1 := Lib.hid (hch.out.trans (Ch.of_below hB1 []) (by simp))
      clear hB1 hW1 HFB HF0 HCALL
      by_cases hz0 : z < 0
      · have hless : leF p q := leF.of_less (by rw [← hzl]; simpa using hz0)
        have hz1 : (!decide (z < 0)) = false := by simp [hz0]
        rw [hz1]
        have HLE := Lib.hid (leAt.of HP.out HQ.out hless)
        clear hless hzl
        go_wp2_with fail
        go_roundw
        case rel => exact ⟨s, cc, rfl, rfl, hs1, hc1, by omega, by omega, hsb, HF1, hlo, .inr (.inr (by rw [show mid + m - cc - 1 = pp - cc by omega]; exact HLE.out)), HC1⟩
        case measure => simp [intOf]; omega
      · have hless : leF q p := by unfold leF; rw [← hzl]; simpa using hz0
        have hz1 : (!decide (z < 0)) = true := by simp [hz0]
        rw [hz1]
        have HLE := Lib.hid (leAt.of HQ.out HP.out hless)
        clear hless hzl
        go_wp2_with fail
        go_roundw
        case rel => exact ⟨cc + 1, r, by go_num, rfl, by omega, by omega, hrm, hrd, by omega, HF1, .inr (.inr (by rw [Nat.add_sub_cancel, show mid + m - (cc + 1) = pp - cc by omega]; exact HLE.out)), hhi, HC1⟩
        case measure => simp [intOf]; omega
    · obtain rfl : s = r := by omega
      obtain ⟨e, he⟩ : ∃ e, e = mid + m - s := ⟨_, rfl⟩
      have heI : ((mid : Int) + m) - s = e := by omega
      have he1 : m ≤ e := by omega
      have he2 : e ≤ b := by omega
      have he3 : s + e ≤ mid + m := by omega
      have he4 : mid + m ≤ s + e := by omega
      rw [← he] at hlo hhi
      have HEI := Lib.hid heI; have HLO := Lib.hid hlo.out; have HHI := Lib.hid hhi.out
      clear he heI hlo hhi
      go_upto_region 39 with fail
      rw [HEI.out]
      go_upto_region 39 with fail
      go_cut [185] (fun x wx => x = .bool (decide (s < m ∧ m < e)) ∧ wr = wx)
      case first => as_aux_lemma =>
        by_cases c1 : s < m
        · by_cases c2 : m < e
          · have c3 : decide (s < m ∧ m < e) = true := decide_eq_true ⟨c1, c2⟩
            have C3 := Lib.hid c3
            clear c3
            go_wp2_with fail
            go_meet
            exact ⟨congrArg Value.bool C3.out.symm, rfl⟩
          · have c3 : decide (s < m ∧ m < e) = false := decide_eq_false (fun h => c2 h.2)
            have C3 := Lib.hid c3
            clear c3
            go_wp2_with fail
            go_meet
            exact ⟨congrArg Value.bool C3.out.symm, rfl⟩
        · have c3 : decide (s < m ∧ m < e) = false := decide_eq_false (fun h => c1 h.1)
          have C3 := Lib.hid c3
          clear c3
          go_wp2_with fail
          go_meet
          exact ⟨congrArg Value.bool C3.out.symm, rfl⟩
      obtain ⟨rfl, rfl⟩ := hcut
      go_upto_if 185 with fail
      go_cut [] (fun wx => ∃ qs, FlRow wx g qs ∧ n = qs.length ∧ RotR qs ps s m e ∧ Ch [g] w wx)
      case first => as_aux_lemma =>
        by_cases c1 : s < m ∧ m < e
        · have c2 : decide (s < m ∧ m < e) = true := decide_eq_true c1
          rw [c2]
          go_wp2_with fail
          refine (rot_any g c s m e n ps _ hfl.out hln.out hm c1.1 c1.2 (by omega)).mono ?_
          rintro ee w' ⟨rfl, qs, g1, g2, g3⟩
          have G1 := Lib.hid g1; have G2 := Lib.hid g2; have G3 := Lib.hid g3
          clear g1 g2 g3
          go_wp2_with fail
          go_meet
          exact ⟨qs, G1.out, by rw [hln.out]; exact G2.out.1.length_eq.symm, G2.out, hch.out.trans G3.out (by simp)⟩
        · have c2 : decide (s < m ∧ m < e) = false := decide_eq_false c1
          rw [c2]
          go_wp2_with fail
          go_meet
          exact ⟨ps, hfl.out, hln.out, RotR.none (by omega) he1 (by omega), hch.out⟩
      obtain ⟨qs, f1, f2, f3, f4⟩ := hcut
      obtain ⟨d1, d2, d3, d4, d5, d6⟩ := sym_turn (mid := mid) f3 HS1.out HS2.out (by rw [← hln.out]; exact hb) hs1 hrm he1 he2 (by omega) (by omega) (by omega) HLO.out HHI.out
      have HF := Lib.hid f1; have HL := Lib.hid f2; have HC := Lib.hid f4
      have D1 := Lib.hid d1; have D2 := Lib.hid d2; have D3 := Lib.hid d3; have D4 := Lib.hid d4; have D5 := Lib.hid d5; have D6 := Lib.hid d6
      clear f1 f2 f3 f4 d1 d2 d3 d4 d5 d6 hch hfl
      obtain ⟨W2, hW2⟩ : ∃ W, W = wc := ⟨_, rfl⟩
      subst hW2
      go_upto_region 41 with fail
      go_cut [199] (fun x wx => x = .bool (decide (a < s ∧ s < mid)) ∧ W2 = wx)
      case first => as_aux_lemma =>
        by_cases c1 : a < s
        · by_cases c2 : s < mid
          · have c3 : decide (a < s ∧ s < mid) = true := decide_eq_true ⟨c1, c2⟩
            have C3 := Lib.hid c3
            clear c3
            go_wp2_with fail
            go_meet
            exact ⟨congrArg Value.bool C3.out.symm, rfl⟩
          · have c3 : decide (a < s ∧ s < mid) = false := decide_eq_false (fun h => c2 h.2)
            have C3 := Lib.hid c3
            clear c3
            go_wp2_with fail
            go_meet
            exact ⟨congrArg Value.bool C3.out.symm, rfl⟩
        · have c3 : decide (a < s ∧ s < mid) = false := decide_eq_false (fun h => c1 h.1)
          have C3 := Lib.hid c3
          clear c3
          go_wp2_with fail
          go_meet
          exact ⟨congrArg Value.bool C3.out.symm, rfl⟩
      obtain ⟨rfl, rfl⟩ := hcut
      go_upto_if 199 with fail
      go_cut [] (fun wx => ∃ rs, FlRow wx g rs ∧ n = rs.length ∧ PermOn rs qs a mid ∧ SrtOn rs a mid ∧ Ch [g] w wx)
      case first => as_aux_lemma =>
        by_cases c1 : a < s ∧ s < mid
        · have c2 : decide (a < s ∧ s < mid) = true := decide_eq_true c1
          rw [c2]
          go_wp2_with fail
          refine (HIH.out g c a s mid n qs _ (by omega) HF.out HL.out hm c1.1 c1.2 (by omega) D2.out D3.out).mono ?_
          rintro ee w' ⟨rfl, rs, g1, g2, g3, g4⟩
          have G1 := Lib.hid g1; have G2 := Lib.hid g2; have G3 := Lib.hid g3; have G4 := Lib.hid g4
          clear g1 g2 g3 g4
          go_wp2_with fail
          go_meet
          exact ⟨rs, G1.out, by rw [HL.out]; exact G2.out.length.symm, G2.out, G3.out, HC.out.trans G4.out (by simp)⟩
        · have c2 : decide (a < s ∧ s < mid) = false := decide_eq_false c1
          rw [c2]
          go_wp2_with fail
          go_meet
          refine ⟨qs, HF.out, HL.out, PermOn.refl _ _ _, ?_, HC.out⟩
          by_cases c3 : a < s
          · have : s = mid := by omega
            rw [← this]; exact D2.out
          · have : s = a := by omega
            rw [← this]; exact D3.out
      obtain ⟨rs, f1, f2, f3, f5, f4⟩ := hcut
      have HFL := Lib.hid f1; have HLL := Lib.hid f2; have HPL := Lib.hid f3; have HSL := Lib.hid f5; have HCL := Lib.hid f4
      have K1 := Lib.hid (show SrtOn rs mid e from fun i j p q h1 h2 h3 hp hq => by rw [f3.2 i (.inr h1)] at hp; rw [f3.2 j (.inr (by omega))] at hq; exact D4.out i j p q h1 h2 h3 hp hq)
      have K2 := Lib.hid (show SrtOn rs e b from fun i j p q h1 h2 h3 hp hq => by rw [f3.2 i (.inr (by omega))] at hp; rw [f3.2 j (.inr (by omega))] at hq; exact D5.out i j p q h1 h2 h3 hp hq)
      clear f1 f2 f3 f4 f5 HC HF HL
      obtain ⟨W3, hW3⟩ : ∃ W, W = wc := ⟨_, rfl⟩
      subst hW3
      go_upto_region 43 with fail
      go_cut [213] (fun x wx => x = .bool (decide (mid < e ∧ e < b)) ∧ W3 = wx)
      case first => as_aux_lemma =>
        by_cases c1 : mid < e
        · by_cases c2 : e < b
          · have c3 : decide (mid < e ∧ e < b) = true := decide_eq_true ⟨c1, c2⟩
            have C3 := Lib.hid c3
            clear c3
            go_wp2_with fail
            go_meet
            exact ⟨congrArg Value.bool C3.out.symm, rfl⟩
          · have c3 : decide (mid < e ∧ e < b) = false := decide_eq_false (fun h => c2 h.2)
            have C3 := Lib.hid c3
            clear c3
            go_wp2_with fail
            go_meet
            exact ⟨congrArg Value.bool C3.out.symm, rfl⟩
        · have c3 : decide (mid < e ∧ e < b) = false := decide_eq_false (fun h => c1 h.1)
          have C3 := Lib.hid c3
          clear c3
          go_wp2_with fail
          go_meet
          exact ⟨congrArg Value.bool C3.out.symm, rfl⟩
      obtain ⟨rfl, rfl⟩ := hcut
      by_cases c1 : mid < e ∧ e < b
      · have c2 : decide (mid < e ∧ e < b) = true := decide_eq_true c1
        rw [c2]
        go_wp2_with fail
        refine (HIH.out g c mid e b n rs _ (by omega) HFL.out HLL.out hm c1.1 c1.2 hb K1.out K2.out).mono ?_
        rintro ee w' ⟨rfl, ts, g1, g2, g3, g4⟩
        have G1 := Lib.hid g1; have G2 := Lib.hid g2; have G3 := Lib.hid g3; have G4 := Lib.hid g4
        clear g1 g2 g3 g4
        go_wp2_with fail
        go_end0
        exact ⟨rfl, ts, G1.out, (G2.out.wide (by omega) (Nat.le_refl _)).trans ((HPL.out.wide (Nat.le_refl _) (by omega)).trans D1.out), srt_halves D6.out HPL.out HSL.out G2.out G3.out, HCL.out.trans G4.out (by simp)⟩
      · have c2 : decide (mid < e ∧ e < b) = false := decide_eq_false c1
        rw [c2]
        go_wp2_with fail
        go_end0
        refine ⟨rfl, rs, HFL.out, (HPL.out.wide (Nat.le_refl _) (by omega)).trans D1.out, srt_halves D6.out HPL.out HSL.out (PermOn.refl _ _ _) ?_, HCL.out⟩
        by_cases c3 : mid < e
        · have : e = b := by omega
          rw [← this]; exact K1.out
        · have : e = mid := by omega
          rw [← this]; exact K2.out
end Go.Proofs.YtjcimajkjnjdpaaDoor
