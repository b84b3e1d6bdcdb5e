/- DERIVED. The stable sort of at most 39 files, walked. -/
import Derived.Test.YtjcimajkjnjdpaaDoorSortMrgC
namespace Go.Proofs.YtjcimajkjnjdpaaDoor
open Go.RowKit
set_option linter.unusedVariables false

theorem ins_at (g c a b n : Nat) (A B : Int) (ps : List Pr) (w : World) (hA : A = a) (hB : B = b) (hr : FlRow w g ps) (hn : n = ps.length) (hm : n ≤ 1000000) (hb : b ≤ n) (ha : a ≤ n) :
    Calls Tryd.prog 49 #[.slice (some ⟨g, 0, none⟩) n c, .int .i64 A, .int .i64 B, .func (.func 16) #[] #[]] w (SrtTo g ps a b w) := by
  subst hA; subst hB
  exact ins_any g c a b n ps w hr hn hm hb ha
theorem sym_at (g c a m b n : Nat) (A M B : Int) (ps : List Pr) (w : World) (hA : A = a) (hM : M = m) (hB : B = b) (hr : FlRow w g ps) (hn : n = ps.length) (hm : n ≤ 1000000) (h1 : a < m) (h2 : m < b) (hb : b ≤ n) (h3 : SrtOn ps a m) (h4 : SrtOn ps m b) :
    Calls Tryd.prog 50 #[.slice (some ⟨g, 0, none⟩) n c, .int .i64 A, .int .i64 M, .int .i64 B, .func (.func 16) #[] #[]] w (SrtTo g ps a b w) := by
  subst hA; subst hB; subst hM
  exact sym_any _ g c a m b n ps w (Nat.le_refl _) hr hn hm h1 h2 hb h3 h4
theorem SrtOn.more {ps : List Pr} {a b b' : Nat} (h : SrtOn ps a b) (hl : ps.length ≤ b) : SrtOn ps a b' := fun i j p q h1 h2 h3 hp hq => h i j p q h1 h2 (by have := (List.getElem?_eq_some_iff.1 hq).1; omega) hp hq
theorem SrtOn.kept {qs ps : List Pr} {a b k : Nat} (h : SrtOn ps a k) (hp : PermOn qs ps k b) : SrtOn qs a k := fun i j p q h1 h2 h3 hi hj => by
  rw [hp.2 i (.inl (by omega))] at hi
  rw [hp.2 j (.inl (by omega))] at hj
  exact h i j p q h1 h2 h3 hi hj
set_option maxRecDepth 100000 in
set_option maxHeartbeats 4000000 in
theorem stab_any (g c n : Nat) (ps : List Pr) (w : World) (hr : FlRow w g ps) (hn : n = ps.length) (hm : n ≤ 39) :
    Calls Tryd.prog 34 #[.slice (some ⟨g, 0, none⟩) n c, .int .i64 n, .func (.func 16) #[] #[]] w (SrtTo g ps 0 n w) := by
  have HR := Lib.hid hr; have HN := Lib.hid hn
  clear hr hn
  have hk0 : ¬ (40 : Int) ≤ n := by omega
  go_enter Tryd.func34, Tryd.ntmps34
  go_wp2_with fail
  go_loopw [7, 8] (fun x y wr => ∃ (k : Nat) (qs : List Pr), x = .int .i64 k ∧ y = .int .i64 (k + 20 : Nat) ∧ k ≤ 20 ∧ k ≤ n ∧ Hid (k = 0 ∨ k = 20) ∧ Hid (FlRow wr g qs) ∧ Hid (n = qs.length) ∧ Hid (PermOn qs ps 0 n) ∧ Hid (SrtOn qs 0 k) ∧ Hid (Ch [g] w wr)) (fun x _ _ => 40 - (intOf x).toNat)
  case atStart => exact ⟨0, ps, rfl, rfl, by omega, by omega, .inl rfl, HR.out, HN.out, PermOn.refl _ _ _, fun i j p q h1 h2 h3 => by omega, Ch.refl _ _⟩
  case round =>
    obtain ⟨k, qs, rfl, rfl, hk20, hkn, hk, hfl, hln, hpm, hso, hch⟩ := hrel
    by_cases hlt : k + 20 ≤ n
    · have hk2 : k = 0 := by rcases hk.out with h | h <;> omega
      subst hk2
      have h20 : (20 : Int) ≤ n := by omega
      go_wp2_with fail
      refine (ins_at g c 0 20 n _ _ qs _ rfl rfl hfl.out hln.out (by omega) (by omega) (by omega)).mono ?_
      rintro e w' ⟨rfl, rs, g1, g2, g3, g4⟩
      have G1 := Lib.hid g1; have G2 := Lib.hid g2; have G3 := Lib.hid g3; have G4 := Lib.hid g4
      clear g1 g2 g3 g4
      go_wp2_with fail
      go_roundw
      case rel => exact ⟨20, rs, rfl, rfl, Nat.le_refl _, by omega, .inr rfl, G1, by rw [hln.out]; exact G2.out.length.symm, (G2.out.wide (Nat.le_refl _) (by omega)).trans hpm.out, G3, hch.out.trans G4.out (by simp)⟩
      case measure => simp [intOf]
    · have h20 : ¬ ((k : Int) + 20) ≤ n := by omega
      go_wp2_with fail
      refine (ins_at g c k n n _ _ qs _ rfl rfl hfl.out hln.out (by omega) (Nat.le_refl _) hkn).mono ?_
      rintro e w' ⟨rfl, rs, g1, g2, g3, g4⟩
      have G1 := Lib.hid g1
      have GL := Lib.hid (show n = rs.length by rw [hln.out]; exact g2.length.symm)
      have S1 := Lib.hid (show SrtOn rs 0 20 by
        rcases hk.out with h | h
        · rw [h] at g3
          exact g3.more (by rw [← GL.out]; exact Nat.le_refl _)
        · have := hso.out.kept g2
          rw [h] at this
          exact this)
      have S2 := Lib.hid (show SrtOn rs 20 n by
        rcases hk.out with h | h
        · exact fun i j p q h1 h2 h3 => by omega
        · rw [h] at g3; exact g3)
      have G4 := Lib.hid (hch.out.trans g4 (by simp))
      have GP := Lib.hid ((g2.wide (Nat.zero_le _) (Nat.le_refl _)).trans hpm.out)
      clear g1 g2 g3 g4 hso hpm hfl hch hln
      go_wp2_with fail
      go_loopw [6, 7, 8] (fun z _ _ wr => ∃ (bs : Nat) (ts : List Pr), z = .int .i64 bs ∧ 20 ≤ bs ∧ bs ≤ 40 ∧ Hid (bs = 20 ∨ bs = 40) ∧ Hid (FlRow wr g ts) ∧ Hid (n = ts.length) ∧ Hid (PermOn ts ps 0 n) ∧ Hid (SrtOn ts 0 bs) ∧ Hid (SrtOn ts bs n) ∧ Hid (Ch [g] w wr)) (fun z _ _ _ => 40 - (intOf z).toNat)
      case atStart => exact ⟨20, rs, rfl, Nat.le_refl _, by omega, .inl rfl, G1, GL, GP, S1, S2, G4⟩
      case round =>
        obtain ⟨bs, ts, rfl, hb20, hb40, hbs, hfl, hln, hpm, hs1, hs2, hch⟩ := hrel
        by_cases hbn : bs < n
        · have hb2 : bs = 20 := by rcases hbs.out with h | h <;> omega
          subst hb2
          have h21 : (20 : Int) < n := by omega
          go_wp2_with fail
          go_loopw [7, 8] (fun x y wv => x = .int .i64 0 ∧ y = .int .i64 40 ∧ wv = wr) (fun x _ _ => 0)
          case atStart => exact ⟨rfl, rfl, rfl⟩
          case round =>
            obtain ⟨rfl, rfl, rfl⟩ := hrel
            go_wp2_with fail
            refine (sym_at g c 0 20 n n _ _ _ ts _ rfl rfl rfl hfl.out hln.out (by omega) (by omega) (by omega) (Nat.le_refl _) hs1.out hs2.out).mono ?_
            rintro e w' ⟨rfl, us, g1, g2, g3, g4⟩
            have G1 := Lib.hid g1; have G2 := Lib.hid g2; have G3 := Lib.hid g3; have G4 := Lib.hid g4
            clear g1 g2 g3 g4
            go_wp2_with fail
            go_roundw
            case rel => exact ⟨40, us, rfl, by omega, Nat.le_refl _, .inr rfl, G1, by rw [hln.out]; exact G2.out.length.symm, G2.out.trans hpm.out, G3.out.more (by rw [G2.out.length, ← hln.out]; exact Nat.le_refl _), fun i j p q h1 h2 h3 => by omega, hch.out.trans G4.out (by simp)⟩
            case measure => simp [intOf]
        · go_wp2_with fail
          go_end0
          exact ⟨rfl, ts, hfl.out, hpm.out, hs1.out.less (by omega), hch.out⟩
set_option maxHeartbeats 1000000 in
theorem sort_any (g c n : Nat) (ps : List Pr) (w : World) (hr : FlRow w g ps) (hn : n = ps.length) (hm : n ≤ 39) :
    Calls Tryd.prog 15 #[.slice (some ⟨g, 0, none⟩) n c, .func (.func 16) #[] #[]] w (SrtTo g ps 0 n w) := by
  have HR := Lib.hid hr; have HN := Lib.hid hn
  clear hr hn
  go_enter Tryd.func15, Tryd.ntmps15
  go_wp2_with fail
  refine (stab_any g c n ps _ HR.out HN.out hm).mono ?_
  rintro e w' ⟨rfl, rs, g1, g2, g3, g4⟩
  have G1 := Lib.hid g1; have G2 := Lib.hid g2; have G3 := Lib.hid g3; have G4 := Lib.hid g4
  clear g1 g2 g3 g4
  go_wp2_with fail
  go_end0
  exact ⟨rfl, rs, G1.out, G2.out, G3.out, G4.out⟩
end Go.Proofs.YtjcimajkjnjdpaaDoor
