/- DERIVED. The walks of the laws of layer 19 (ribbon). -/
import Derived.Test.YtebeafpoblhlhaaRibMore
import Derived.Test.YtebeafpoblhlhaaMemTwo
import Derived.Lib.SlBytesConst
namespace Go.Proofs.Ytebeafpoblhlhaa
open Go.RowKit
set_option linter.unusedVariables false

/-- A ribbon of the call's own: its blocks lie from B on; nothing below B has changed since w0. -/
def Own (B : Nat) (w0 : World) (R : Nat) (s : RibSt) (w : World) : Prop := ∃ vs vw, RibAt w R vs vw s ∧ (∀ k ∈ ribFoot R vs vw, B ≤ k) ∧ Below B w0 w ∧ B ≤ w.heap.size
theorem below_of_ch {S : List Nat} {B : Nat} {w w' : World} (h : Ch S w w') (hS : ∀ k ∈ S, B ≤ k) (hB : B ≤ w.heap.size) : Below B w w' :=
  ⟨h.os, h.tape, h.output, h.size, fun k hk => h.block k (by omega) (fun hs => by have := hS k hs; omega)⟩
theorem Own.step {B : Nat} {w0 w w' : World} {R : Nat} {s' : RibSt} {vs vw : Value} (hf : ∀ k ∈ ribFoot R vs vw, B ≤ k) (hb : Below B w0 w) (hB : B ≤ w.heap.size) (h : RibTo w R vs vw s' w') : Own B w0 R s' w' := by
  obtain ⟨vs', vw', h1, h2, h3⟩ := h
  exact ⟨vs', vw', h1, fun k hk => (h3 k hk).elim (hf k) (fun h => by omega), hb.trans (below_of_ch h2 hf hB), Nat.le_trans hB h2.size⟩
theorem RibAt.keep {w w' : World} {R : Nat} {vs vw : Value} {s : RibSt} (h : RibAt w R vs vw s) (hk : ∀ k ∈ ribFoot R vs vw, w'.heap[k]? = w.heap[k]?) : RibAt w' R vs vw s :=
  ⟨by rw [hk R (by simp [ribFoot])]; exact h.cells, ownsRow_keep h.safe (fun g hg => hk g (by simp [ribFoot, hg])), ownsRow_keep h.waits (fun g hg => hk g (by simp [ribFoot, hg])), h.apart, h.len, h.inn0, h.inn1, h.acts0⟩
theorem RibAt.foot_lt {w : World} {R : Nat} {vs vw : Value} {s : RibSt} (h : RibAt w R vs vw s) : ∀ k ∈ ribFoot R vs vw, k < w.heap.size := by
  intro k hk
  simp only [ribFoot, List.mem_cons, List.mem_append, Option.mem_toList] at hk
  rcases hk with rfl | hk | hk
  · exact h.lt
  · exact owns_lt h.safe k hk
  · exact owns_lt h.waits k hk
/-- New blocks of the call's own leave it as it is. -/
theorem Own.below {B : Nat} {w0 w w' : World} {R : Nat} {s : RibSt} (h : Own B w0 R s w) (hb : Below w.heap.size w w') : Own B w0 R s w' := by
  obtain ⟨vs, vw, h1, h2, h3, h4⟩ := h
  exact ⟨vs, vw, h1.keep (fun k hk => hb.block k (h1.foot_lt k hk)), h2, h3.trans (hb.mono h4), Nat.le_trans h4 hb.size⟩
theorem own_write {B : Nat} {w0 w : World} {R : Nat} {s : RibSt} (h : Own B w0 R s w) (ha : s.acts < 4611686018427387904) (vb : Value) (b : List UInt8) (hb : Rd w vb (bytesV b)) :
    Calls Try.prog 10 #[.pointer (some ⟨R, 0, none⟩), vb] w fun e w' => e = .returned (.int .i64 (s.wrote b).1) ∧ Own B w0 R (s.wrote b).2 w' := by
  obtain ⟨vs, vw, h1, h2, h3, h4⟩ := h
  exact (write_any w R vs vw s h1 ha vb b hb).mono fun e w' ⟨he, ht⟩ => ⟨he, Own.step h2 h3 h4 ht⟩
theorem own_flush {B : Nat} {w0 w : World} {R : Nat} {s : RibSt} (h : Own B w0 R s w) (ha : s.acts < 4611686018427387904) :
    Calls Try.prog 13 #[.pointer (some ⟨R, 0, none⟩)] w fun e w' => e = .returned (.int .i64 s.flushed.1) ∧ Own B w0 R s.flushed.2 w' := by
  obtain ⟨vs, vw, h1, h2, h3, h4⟩ := h
  exact (flush_any w R vs vw s h1 ha).mono fun e w' ⟨he, ht⟩ => ⟨he, Own.step h2 h3 h4 ht⟩
theorem own_cut {B : Nat} {w0 w : World} {R : Nat} {s : RibSt} (h : Own B w0 R s w) (ha : s.acts < 4611686018427387904) (n : Int) :
    Calls Try.prog 17 #[.pointer (some ⟨R, 0, none⟩), .int .i64 n] w fun e w' => e = .returned (.int .i64 (s.cutted n).1) ∧ Own B w0 R (s.cutted n).2 w' := by
  obtain ⟨vs, vw, h1, h2, h3, h4⟩ := h
  exact (cut_any w R vs vw s h1 ha n).mono fun e w' ⟨he, ht⟩ => ⟨he, Own.step h2 h3 h4 ht⟩
theorem own_off {B : Nat} {w0 w : World} {R : Nat} {s : RibSt} (h : Own B w0 R s w) (keep : Int) :
    Calls Try.prog 14 #[.pointer (some ⟨R, 0, none⟩), .int .i64 keep] w fun e w' => e = .returned (.tuple #[]) ∧ Own B w0 R (s.offed keep) w' := by
  obtain ⟨vs, vw, h1, h2, h3, h4⟩ := h
  exact (off_any w R vs vw s keep h1).mono fun e w' ⟨he, ht⟩ => ⟨he, Own.step h2 h3 h4 ht⟩
theorem own_on {B : Nat} {w0 w : World} {R : Nat} {s : RibSt} (h : Own B w0 R s w) :
    Calls Try.prog 16 #[.pointer (some ⟨R, 0, none⟩)] w fun e w' => e = .returned (.tuple #[]) ∧ Own B w0 R { s with off := false } w' := by
  obtain ⟨vs, vw, h1, h2, h3, h4⟩ := h
  exact (on_any w R vs vw s h1).mono fun e w' ⟨he, ht⟩ => ⟨he, Own.step h2 h3 h4 ht⟩
theorem own_down {B : Nat} {w0 w : World} {R : Nat} {s : RibSt} (h : Own B w0 R s w) :
    Calls Try.prog 15 #[.pointer (some ⟨R, 0, none⟩)] w fun e w' => e = .returned (.bool s.off) ∧ w = w' := by
  obtain ⟨vs, vw, h1, _⟩ := h
  exact down_any w R vs vw s h1
theorem own_acts {B : Nat} {w0 w : World} {R : Nat} {s : RibSt} (h : Own B w0 R s w) :
    Calls Try.prog 12 #[.pointer (some ⟨R, 0, none⟩)] w fun e w' => e = .returned (.int .i64 s.acts) ∧ w = w' := by
  obtain ⟨vs, vw, h1, _⟩ := h
  exact acts_any w R vs vw s h1
theorem own_read {B : Nat} {w0 w : World} {R : Nat} {s : RibSt} (h : Own B w0 R s w) (ho : s.off = false) :
    Calls Try.prog 11 #[.pointer (some ⟨R, 0, none⟩)] w fun e w' => ∃ a c, e = .returned (.tuple #[.slice a (s.safe.length + s.waits.length) c, .int .i64 0]) ∧ w'.ownsRow w.heap.size 5 1 (.slice a (s.safe.length + s.waits.length) c) (s.safe.length + s.waits.length) (bytesV (s.safe ++ s.waits)) ∧ Own B w0 R s w' ∧ Below w.heap.size w w' := by
  have h' := h
  obtain ⟨vs, vw, h1, h2, h3, h4⟩ := h'
  exact (read_any w R vs vw s h1 ho).mono fun e w' ⟨a, c, he, hw, hb⟩ => ⟨a, c, he, hw, h.below hb, hb⟩
theorem own_new (w : World) (vb : Value) (b : List UInt8) (hb : Rd w vb (bytesV b)) (hbl : b.length < 140737488355328) :
    Calls Try.prog 9 #[vb] w fun e w' => ∃ R, e = .returned (.pointer (some ⟨R, 0, none⟩)) ∧ Own w.heap.size w R (newRib b) w' :=
  (new_any w vb b hb hbl).mono fun e w' ⟨R, vs, vw, he, h1, h2, h3⟩ => ⟨R, he, vs, vw, h1, h3, h2, h2.size⟩

theorem own_write_to {B : Nat} {w0 w : World} {R : Nat} {s : RibSt} (h : Own B w0 R s w) (ha : s.acts < 4611686018427387904) (vb : Value) (b : List UInt8) (hb : Rd w vb (bytesV b)) (x : Int) (s' : RibSt) (hs : s.wrote b = (x, s')) :
    Calls Try.prog 10 #[.pointer (some ⟨R, 0, none⟩), vb] w fun e w' => e = .returned (.int .i64 x) ∧ Own B w0 R s' w' := by
  have := own_write h ha vb b hb
  rw [hs] at this; exact this
theorem own_flush_to {B : Nat} {w0 w : World} {R : Nat} {s : RibSt} (h : Own B w0 R s w) (ha : s.acts < 4611686018427387904) (x : Int) (s' : RibSt) (hs : s.flushed = (x, s')) :
    Calls Try.prog 13 #[.pointer (some ⟨R, 0, none⟩)] w fun e w' => e = .returned (.int .i64 x) ∧ Own B w0 R s' w' := by
  have := own_flush h ha
  rw [hs] at this; exact this
theorem own_off_to {B : Nat} {w0 w : World} {R : Nat} {s : RibSt} (h : Own B w0 R s w) (keep : Int) (s' : RibSt) (hs : s.offed keep = s') :
    Calls Try.prog 14 #[.pointer (some ⟨R, 0, none⟩), .int .i64 keep] w fun e w' => e = .returned (.tuple #[]) ∧ Own B w0 R s' w' := by
  have := own_off h keep
  rw [hs] at this; exact this
theorem own_on_to {B : Nat} {w0 w : World} {R : Nat} {s : RibSt} (h : Own B w0 R s w) (s' : RibSt) (hs : { s with off := false } = s') :
    Calls Try.prog 16 #[.pointer (some ⟨R, 0, none⟩)] w fun e w' => e = .returned (.tuple #[]) ∧ Own B w0 R s' w' := by
  have := own_on h
  rw [hs] at this; exact this
theorem own_cut_to {B : Nat} {w0 w : World} {R : Nat} {s : RibSt} (h : Own B w0 R s w) (ha : s.acts < 4611686018427387904) (n : Int) (x : Int) (s' : RibSt) (hs : s.cutted n = (x, s')) :
    Calls Try.prog 17 #[.pointer (some ⟨R, 0, none⟩), .int .i64 n] w fun e w' => e = .returned (.int .i64 x) ∧ Own B w0 R s' w' := by
  have := own_cut h ha n
  rw [hs] at this; exact this
theorem own_read_to {B : Nat} {w0 w : World} {R : Nat} {s : RibSt} (h : Own B w0 R s w) (ho : s.off = false) (l : List UInt8) (hl : s.safe ++ s.waits = l) :
    Calls Try.prog 11 #[.pointer (some ⟨R, 0, none⟩)] w fun e w' => ∃ a c, e = .returned (.tuple #[.slice a l.length c, .int .i64 0]) ∧ w'.ownsRow w.heap.size 5 1 (.slice a l.length c) l.length (bytesV l) ∧ Own B w0 R s w' ∧ Below w.heap.size w w' := by
  have := own_read h ho
  rw [← List.length_append, hl] at this; exact this
set_option maxHeartbeats 1000000 in
theorem alive_any (w : World) :
    Calls Try.prog 8 #[] w fun e w' => e = .returned (.bool true) ∧ Below w.heap.size w w' := by
  have kc := fun (w : World) (C : Array Value) (n c : Nat) => Lib.run_convert_bytes_const (P := Try.prog) w 22 5 C n c Try.underlying22 Try.underlying5
  go_enter Try.func8, Try.ntmps8
  go_wp2_with fail
  refine (own_new w _ [] (Rd.nil w) (by decide)).mono ?_
  rintro e w1 ⟨R, rfl, o1⟩
  have O1 := Lib.hid o1; clear o1
  go_wp2_with fail
  refine (own_write_to (O1.out.below ((Below.refl _ _).alloc (Nat.le_refl _) _)) (by decide) _ [97, 98] (rd_two w1 97 98 _ _) 0 { safe := [], waits := [97, 98], off := false, acts := 1, inn := 0, keep := 0 } rfl).mono ?_
  rintro e w2 ⟨rfl, o2⟩
  have O2 := Lib.hid o2; clear o2
  go_wp2_with fail
  refine (own_flush_to O2.out (by decide) 0 { safe := [97, 98], waits := [], off := false, acts := 2, inn := 0, keep := 0 } rfl).mono ?_
  rintro e w3 ⟨rfl, o3⟩
  have O3 := Lib.hid o3; clear o3
  go_wp2_with fail
  refine (own_write_to (O3.out.below ((Below.refl _ _).alloc (Nat.le_refl _) _)) (by decide) _ [99, 100] (rd_two w3 99 100 _ _) 0 { safe := [97, 98], waits := [99, 100], off := false, acts := 3, inn := 0, keep := 0 } rfl).mono ?_
  rintro e w4 ⟨rfl, o4⟩
  have O4 := Lib.hid o4; clear o4
  go_wp2_with fail
  refine (own_off_to O4.out 1 { safe := [97, 98, 99], waits := [], off := true, acts := 3, inn := 0, keep := 0 } rfl).mono ?_
  rintro e w5 ⟨rfl, o5⟩
  have O5 := Lib.hid o5; clear o5
  go_wp2_with fail
  refine (own_on_to O5.out { safe := [97, 98, 99], waits := [], off := false, acts := 3, inn := 0, keep := 0 } rfl).mono ?_
  rintro e w6 ⟨rfl, o6⟩
  have O6 := Lib.hid o6; clear o6
  go_wp2_with fail
  refine (own_read_to O6.out rfl [97, 98, 99] rfl).mono ?_
  rintro e w7 ⟨a, c, rfl, hw, o7, hb7⟩
  have hcv : (convert 22 9 (.slice a 3 c)).run Try.prog w7 = .ok (.string ⟨#[97, 98, 99]⟩) w7 := conv_rd (P := Try.prog) Try.underlying22 Try.underlying5 Try.underlying9 (Rd.of_owns hw)
  have O7 := Lib.hid o7; have HB7 := Lib.hid hb7; clear o7 hw hb7
  go_wp2_with fail
  go_ret
  obtain ⟨_, _, _, _, hb, _⟩ := O7.out
  exact ⟨rfl, hb⟩
end Go.Proofs.Ytebeafpoblhlhaa
