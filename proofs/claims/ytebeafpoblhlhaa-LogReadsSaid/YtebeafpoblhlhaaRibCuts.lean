/- DERIVED. The walk of RibbonCuts. -/
import Derived.Test.YtebeafpoblhlhaaRibLaws
namespace Go.Proofs.Ytebeafpoblhlhaa
open Go.RowKit
set_option linter.unusedVariables false

theorem new_small (a : List UInt8) (h : a.length ≤ 16384) : newRib a = { safe := a, waits := [], off := false, acts := 0, inn := 0, keep := 0 } := by
  unfold newRib; rw [List.take_of_length_le (by omega)]
theorem wrote_small (a b : List UInt8) (h : a.length + b.length ≤ 16384) : ({ safe := a, waits := [], off := false, acts := 0, inn := 0, keep := 0 } : RibSt).wrote b = (0, { safe := a, waits := b, off := false, acts := 1, inn := 0, keep := 0 }) := by
  unfold RibSt.wrote
  rw [if_neg (by simp), if_neg (by simp; omega)]
  rfl
theorem offed_none (s : RibSt) (keep : Int) (ho : s.off = false) (hw : s.waits = []) : s.offed keep = { s with off := true, inn := 0 } := by
  unfold RibSt.offed RibSt.kept
  rw [if_neg (by simp [ho])]
  simp [hw]
theorem own_of {B : Nat} {w0 w : World} {R : Nat} {s : RibSt} (h : Own B w0 R s w) : Below B w0 w := by
  obtain ⟨_, _, _, _, hb, _⟩ := h
  exact hb
theorem Own.drewN {B : Nat} {w0 w : World} {R : Nat} {s : RibSt} (h : Own B w0 R s w) (n : Nat) : Own B w0 R s (w.drewN n) := by
  obtain ⟨vs, vw, h1, h2, h3, h4⟩ := h
  exact ⟨vs, vw, h1.drewN n, h2, ⟨h3.os, h3.tape, h3.output, h3.size, h3.block⟩, h4⟩
theorem below_drewN {B : Nat} {a w : World} (h : Below B a w) (n : Nat) : Below B a (w.drewN n) := ⟨h.os, h.tape, h.output, h.size, h.block⟩
theorem conv_at {w : World} {a : Option Addr} {c : Nat} {l : List UInt8} (h : Rd w (.slice a l.length c) (bytesV l)) :
    (convert 22 9 (.slice a l.length c)).run Try.prog w = .ok (.string ⟨l.toArray⟩) w := conv_rd (P := Try.prog) Try.underlying22 Try.underlying5 Try.underlying9 h
set_option maxHeartbeats 2000000 in
theorem cuts_any (w : World) (aa : Option Addr) (ca : Nat) (ab : Option Addr) (cb : Nat) (a b : List UInt8) (ra : Rd w (.slice aa a.length ca) (bytesV a)) (rb : Rd w (.slice ab b.length cb) (bytesV b)) (hma : a.length ≤ 140737488355328) (hmb : b.length ≤ 140737488355328) (n keep : Int) :
    Calls Try.prog 5 #[.slice aa a.length ca, .slice ab b.length cb, .int .i64 n, .int .i64 keep] w fun e w' => e = .returned (.bool true) ∧ Below w.heap.size w w' := by
  have RA := Lib.hid ra; have RB := Lib.hid rb; clear ra rb
  by_cases hbig : 16384 < a.length + b.length
  · go_enter Try.func5, Try.ntmps5
    go_wp2_with fail
    refine (alive_any _).mono ?_
    rintro e w1 ⟨rfl, hb1⟩
    have HB1 := Lib.hid hb1; clear hb1
    go_wp2
    go_ret
    exact ⟨rfl, HB1.out⟩
  · have hsm : a.length + b.length ≤ 16384 := by omega
    clear hma hmb
    obtain ⟨A, hA⟩ : ∃ A : ByteArray, A = ⟨(a ++ b).toArray⟩ := ⟨_, rfl⟩
    have hAs : A.size = a.length + b.length := by rw [hA, str_size, List.length_append]
    have hAp : (⟨a.toArray⟩ : ByteArray) ++ ⟨b.toArray⟩ = A := by rw [str_append, hA]
    have HA := Lib.hid hA; have HAS := Lib.hid hAs; have HAP := Lib.hid hAp; clear hA hAs hAp
    rcases (show n < 0 ∨ ((a.length + b.length : Nat) : Int) < n ∧ ¬ n < 0 ∨ ∃ k : Nat, n = k ∧ k ≤ a.length + b.length from by
      by_cases h : n < 0
      · exact .inl h
      · by_cases h2 : ((a.length + b.length : Nat) : Int) < n
        · exact .inr (.inl ⟨h2, h⟩)
        · exact .inr (.inr ⟨n.toNat, by omega, by omega⟩)) with hn | hn | ⟨k, rfl, hk⟩
    all_goals
      go_enter Try.func5, Try.ntmps5
      go_wp2_with fail
      refine (alive_any _).mono ?_
      rintro e w1 ⟨rfl, hb1⟩
      have HB1 := Lib.hid hb1; clear hb1
      go_wp2_with fail
      have hnew := own_new w1 _ a (RA.out.below HB1.out) (by omega)
      rw [new_small a (by omega)] at hnew
      refine hnew.mono ?_
      clear hnew
      rintro e w2 ⟨R, rfl, o2⟩
      have hb2 := HB1.out.trans ((own_of o2).mono HB1.out.size)
      have HB2 := Lib.hid hb2; have O2 := Lib.hid o2; clear hb2 o2
      go_wp2_with fail
      refine (own_write_to O2.out (by show (0 : Int) < _; omega) _ b (RB.out.below HB2.out) 0 _ (wrote_small a b hsm)).mono ?_
      rintro e w3 ⟨rfl, o3⟩
      have hb3 := HB1.out.trans ((own_of o3).mono HB1.out.size)
      have hca := conv_at (RA.out.below hb3)
      have hcb := conv_at (RB.out.below hb3)
      have HB3 := Lib.hid hb3; have O3 := Lib.hid o3; clear hb3 o3
      go_wp2_with fail
      rw [HAP.out]
      clear hca hcb
    · refine (own_cut_to O3.out (by show (1 : Int) < _; omega) n 1 { safe := a, waits := b, off := false, acts := 1, inn := 0, keep := 0 } (by unfold RibSt.cutted; rw [if_neg (by simp), if_pos (.inl hn)])).mono ?_
      rintro e w4 ⟨rfl, o4⟩
      have hb4 := HB1.out.trans ((own_of o4).mono HB1.out.size)
      have HB4 := Lib.hid hb4; have O4 := Lib.hid o4; clear hb4 o4
      go_wp2_with fail
      refine (own_acts O4.out).mono ?_
      rintro e w' ⟨rfl, rfl⟩
      go_wp2
      go_ret
      exact ⟨rfl, HB4.out⟩
    · refine (own_cut_to O3.out (by show (1 : Int) < _; omega) n 1 { safe := a, waits := b, off := false, acts := 1, inn := 0, keep := 0 } (by unfold RibSt.cutted; rw [if_neg (by simp), if_pos (.inr (by simpa using hn.1))])).mono ?_
      rintro e w4 ⟨rfl, o4⟩
      have hb4 := HB1.out.trans ((own_of o4).mono HB1.out.size)
      have HB4 := Lib.hid hb4; have O4 := Lib.hid o4; clear hb4 o4
      have hAs := HAS.out
      have hgt : (A.size : Int) < n := by rw [hAs]; exact hn.1
      have hge : ¬ n < 0 := by omega
      clear hAs hn
      go_wp2_with fail
      refine (own_acts O4.out).mono ?_
      rintro e w' ⟨rfl, rfl⟩
      go_wp2
      go_ret
      exact ⟨rfl, HB4.out⟩
    · obtain ⟨l, hl⟩ : ∃ l, l = (a ++ b).take k := ⟨_, rfl⟩
      have hex : A.extract 0 k = ⟨l.toArray⟩ := by rw [HA.out, str_take, hl]
      have hkA : k ≤ A.size := by rw [HAS.out]; exact hk
      refine (own_cut_to O3.out (by show (1 : Int) < _; omega) k 0 { safe := l, waits := [], off := false, acts := 2, inn := 0, keep := 0 } (by
        unfold RibSt.cutted
        rw [if_neg (by simp), if_neg (by simp; omega), hl]
        rfl)).mono ?_
      rintro e w4 ⟨rfl, o4⟩
      have O4 := Lib.hid o4; have HEX := Lib.hid hex; clear o4 hex hl
      go_wp2_with fail
      refine (own_off_to O4.out keep _ (offed_none _ keep rfl rfl)).mono ?_
      rintro e w5 ⟨rfl, o5⟩
      have O5 := Lib.hid o5; clear o5
      go_wp2_with fail
      refine (own_on_to O5.out { safe := l, waits := [], off := false, acts := 2, inn := 0, keep := 0 } rfl).mono ?_
      rintro e w6 ⟨rfl, o6⟩
      have O6 := Lib.hid o6; clear o6
      go_wp2_with fail
      refine (own_read_to O6.out rfl l (List.append_nil l)).mono ?_
      rintro e w7 ⟨ax, cx, rfl, hw, o7, hb7⟩
      have hb8 := HB1.out.trans ((own_of o7).mono HB1.out.size)
      have hcx : ∀ n, (convert 22 9 (.slice ax l.length cx)).run Try.prog (w7.drewN n) = .ok (.string (A.extract 0 k)) (w7.drewN n) := fun n => by rw [HEX.out]; exact conv_at (w := w7.drewN n) (Rd.of_owns hw)
      have hac : ∀ n, Calls Try.prog 12 #[.pointer (some ⟨R, 0, none⟩)] (w7.drewN n) fun e w'' => e = .returned (.int .i64 2) ∧ ∃ m, w'' = w7.drewN m := fun n => (own_acts (o7.drewN n)).mono fun e w' ⟨he, hw⟩ => ⟨he, n, hw.symm⟩
      have HAC := Lib.hid hac; have HB8 := Lib.hid hb8; clear hac hb8 hw o7 hb7
      go_wp2_with fail
      go_quiet ((go_at_call 12; exact HAC.out _))
      go_wp2
      go_ret
      exact ⟨rfl, below_drewN HB8.out _⟩
end Go.Proofs.Ytebeafpoblhlhaa
