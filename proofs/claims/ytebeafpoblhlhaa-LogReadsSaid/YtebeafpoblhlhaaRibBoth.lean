/- DERIVED. A ribbon and the reference's one, side by side. -/
import Derived.Test.YtebeafpoblhlhaaRibGreat
import Derived.Test.YtebeafpoblhlhaaRefMore
namespace Go.Proofs.Ytebeafpoblhlhaa
open Go.RowKit
set_option linter.unusedVariables false

/-- The reference's state of a ribbon's. -/
def ofRib (s : RibSt) : RefSt := { all := s.safe ++ s.waits, safe := s.safe.length, power := !s.off, acts := s.acts, inn := s.inn, keep := s.keep }
theorem ofRib_goes (s : RibSt) : (ofRib s).goes = (s.inn == 1) := rfl
theorem of_offed (s : RibSt) (k : Int) : (ofRib s).offed k = ofRib (s.offed k) := by
  by_cases ho : s.off = true
  · have e1 : s.offed k = s := offed_on s k ho
    have e2 : (ofRib s).offed k = ofRib s := by unfold RefSt.offed; rw [if_neg (by simp [ofRib, ho])]
    rw [e1, e2]
  · have ho' : s.off = false := by simpa using ho
    have hk : (ofRib s).kept k = s.kept k := by unfold RefSt.kept RibSt.kept ofRib; simp
    have hle : s.kept k ≤ s.waits.length := by unfold RibSt.kept; omega
    rw [offed_safe s k _ ho' rfl, refoffed (ofRib s) k _ (by simp [ofRib, ho']) rfl, hk]
    simp only [ofRib, List.append_nil, List.length_append, List.length_take, Nat.min_eq_left hle, Bool.not_true]
    congr 1
    rw [List.take_append, List.take_of_length_le (by omega)]
    congr 2; omega
theorem of_acted (s : RibSt) (hi : 0 ≤ s.inn) : (ofRib s).acted = ofRib s.acted := by
  by_cases h0 : s.inn = 0
  · have e1 : s.acted = { s with acts := s.acts + 1 } := by unfold RibSt.acted; rw [if_neg (by omega)]
    have e2 : (ofRib s).acted = { ofRib s with acts := s.acts + 1 } := by unfold RefSt.acted; rw [if_pos (by exact h0)]; rfl
    rw [e1, e2]; rfl
  · by_cases h1 : s.inn - 1 = 0
    · have e1 : s.acted = ({ s with acts := s.acts + 1, inn := s.inn - 1 } : RibSt).offed s.keep := by unfold RibSt.acted; rw [if_pos (by omega), if_pos h1]
      have e2 : (ofRib s).acted = ({ ofRib s with acts := s.acts + 1, inn := s.inn - 1 } : RefSt).offed s.keep := by
        unfold RefSt.acted
        rw [if_neg (by exact h0), if_neg (by show ¬ 0 < s.inn - 1; omega)]; rfl
      rw [e1, e2, ← of_offed]; rfl
    · have e1 : s.acted = { s with acts := s.acts + 1, inn := s.inn - 1 } := by unfold RibSt.acted; rw [if_pos (by omega), if_neg h1]
      have e2 : (ofRib s).acted = { ofRib s with acts := s.acts + 1, inn := s.inn - 1 } := by
        unfold RefSt.acted
        rw [if_neg (by exact h0), if_pos (by show 0 < s.inn - 1; omega)]; rfl
      rw [e1, e2]; rfl
theorem acted_goes (s : RibSt) (ho : s.off = false) (hi : 0 ≤ s.inn) : s.acted.off = (s.inn == 1) := by
  by_cases h0 : s.inn = 0
  · have e1 : s.acted = { s with acts := s.acts + 1 } := by unfold RibSt.acted; rw [if_neg (by omega)]
    rw [e1]; simp [ho, h0]
  · by_cases h1 : s.inn - 1 = 0
    · have e1 : s.acted = ({ s with acts := s.acts + 1, inn := s.inn - 1 } : RibSt).offed s.keep := by unfold RibSt.acted; rw [if_pos (by omega), if_pos h1]
      rw [e1, offed_safe ({ s with acts := s.acts + 1, inn := s.inn - 1 } : RibSt) s.keep _ ho rfl]; simp [show s.inn = 1 from by omega]
    · have e1 : s.acted = { s with acts := s.acts + 1, inn := s.inn - 1 } := by unfold RibSt.acted; rw [if_pos (by omega), if_neg h1]
      rw [e1]; simp [ho, show s.inn ≠ 1 from by omega]
theorem of_wrote (s : RibSt) (b : List UInt8) (hi : 0 ≤ s.inn) (hlen : s.safe.length + s.waits.length ≤ 1048576) : (ofRib s).wrote b = ((s.wrote b).1, ofRib (s.wrote b).2) := by
  by_cases ho : s.off = true
  · have e1 : s.wrote b = (70, s) := by unfold RibSt.wrote; rw [if_pos ho]
    have e2 : (ofRib s).wrote b = (70, ofRib s) := by unfold RefSt.wrote; rw [if_neg (by simp [ofRib, ho])]
    rw [e1, e2]
  · have ho' : s.off = false := by simpa using ho
    have hp : (ofRib s).power = true := by simp [ofRib, ho']
    have hl : (ofRib s).all.length = s.safe.length + s.waits.length := by simp [ofRib]
    by_cases hf : 1048576 - s.safe.length - s.waits.length < b.length
    · have e1 : s.wrote b = (71, s) := by unfold RibSt.wrote; rw [if_neg ho, if_pos hf]
      have e2 : (ofRib s).wrote b = (71, ofRib s) ∨ 1048576 < s.safe.length + s.waits.length := by
        by_cases hbig : 1048576 < (ofRib s).all.length + b.length
        · exact .inl (by unfold RefSt.wrote; rw [if_pos hp, if_pos hbig])
        · exact .inr (by omega)
      rcases e2 with e2 | e2
      · rw [e1, e2]
      · have : (ofRib s).wrote b = (71, ofRib s) := by unfold RefSt.wrote; rw [if_pos hp, if_pos (by omega)]
        rw [e1, this]
    · by_cases hbig : 1048576 < (ofRib s).all.length + b.length
      · omega
      · have e1 : s.wrote b = (if ({ s with waits := s.waits ++ b } : RibSt).acted.off then 70 else 0, ({ s with waits := s.waits ++ b } : RibSt).acted) := by unfold RibSt.wrote; rw [if_neg ho, if_neg hf]
        have e2 : (ofRib s).wrote b = (if (ofRib s).goes then 70 else 0, ({ ofRib s with all := (ofRib s).all ++ b } : RefSt).acted) := by unfold RefSt.wrote; rw [if_pos hp, if_neg hbig]
        have e : ({ ofRib s with all := (ofRib s).all ++ b } : RefSt) = ofRib { s with waits := s.waits ++ b } := by simp [ofRib]
        rw [e1, e2, e, of_acted _ (by exact hi), acted_goes { s with waits := s.waits ++ b } ho' hi]
        rfl
theorem of_flushed (s : RibSt) (hi : 0 ≤ s.inn) : (ofRib s).flushed = ((s.flushed).1, ofRib (s.flushed).2) := by
  by_cases ho : s.off = true
  · have e1 : s.flushed = (70, s) := by unfold RibSt.flushed; rw [if_pos ho]
    have e2 : (ofRib s).flushed = (70, ofRib s) := by unfold RefSt.flushed; rw [if_neg (by simp [ofRib, ho])]
    rw [e1, e2]
  · have ho' : s.off = false := by simpa using ho
    have hp : (ofRib s).power = true := by simp [ofRib, ho']
    have hg := acted_goes s ho' hi
    cases hq : (s.inn == 1)
    · rw [hq] at hg
      have e1 : s.flushed = (0, { s.acted with safe := s.acted.safe ++ s.acted.waits, waits := [] }) := by unfold RibSt.flushed; rw [if_neg ho, if_neg (by simp [hg])]
      have e2 : (ofRib s).flushed = (0, { (ofRib s).acted with safe := (ofRib s).acted.all.length }) := by unfold RefSt.flushed; rw [if_pos hp, if_neg (by rw [ofRib_goes, hq]; simp)]
      rw [e1, e2, of_acted s hi]
      simp [ofRib]
    · rw [hq] at hg
      have e1 : s.flushed = (70, s.acted) := by unfold RibSt.flushed; rw [if_neg ho, if_pos hg]
      have e2 : (ofRib s).flushed = (70, (ofRib s).acted) := by unfold RefSt.flushed; rw [if_pos hp, if_pos (by rw [ofRib_goes, hq])]
      rw [e1, e2, of_acted s hi]
theorem of_cutted (s : RibSt) (n : Int) (hi : 0 ≤ s.inn) : (ofRib s).cutted n = ((s.cutted n).1, ofRib (s.cutted n).2) := by
  by_cases ho : s.off = true
  · have e1 : s.cutted n = (70, s) := by unfold RibSt.cutted; rw [if_pos ho]
    have e2 : (ofRib s).cutted n = (70, ofRib s) := by unfold RefSt.cutted; rw [if_neg (by simp [ofRib, ho])]
    rw [e1, e2]
  · have ho' : s.off = false := by simpa using ho
    have hp : (ofRib s).power = true := by simp [ofRib, ho']
    have hl : (ofRib s).all.length = s.safe.length + s.waits.length := by simp [ofRib]
    have hg := acted_goes s ho' hi
    by_cases hb : n < 0 ∨ (s.safe.length : Int) + s.waits.length < n
    · have e1 : s.cutted n = (1, s) := by unfold RibSt.cutted; rw [if_neg ho, if_pos hb]
      have e2 : (ofRib s).cutted n = (1, ofRib s) := by unfold RefSt.cutted; rw [if_pos hp, if_pos (by rw [hl]; omega)]
      rw [e1, e2]
    · have hb2 : ¬ (n < 0 ∨ ((ofRib s).all.length : Int) < n) := by rw [hl]; omega
      cases hq : (s.inn == 1)
      · rw [hq] at hg
        obtain ⟨h1, h2⟩ := acted_sum s hg
        have e1 : s.cutted n = (0, { s.acted with safe := (s.acted.safe ++ s.acted.waits).take n.toNat, waits := [] }) := by unfold RibSt.cutted; rw [if_neg ho, if_neg hb, if_neg (by simp [hg])]
        have e2 : (ofRib s).cutted n = (0, { (ofRib s).acted with all := (ofRib s).acted.all.take n.toNat, safe := n.toNat }) := by unfold RefSt.cutted; rw [if_pos hp, if_neg hb2, if_neg (by rw [ofRib_goes, hq]; simp)]
        rw [e1, e2, of_acted s hi]
        simp only [ofRib, List.append_nil, h1, h2, List.length_take, List.length_append]
        congr 2
        omega
      · rw [hq] at hg
        have e1 : s.cutted n = (70, s.acted) := by unfold RibSt.cutted; rw [if_neg ho, if_neg hb, if_pos hg]
        have e2 : (ofRib s).cutted n = (70, (ofRib s).acted) := by unfold RefSt.cutted; rw [if_pos hp, if_neg hb2, if_pos (by rw [ofRib_goes, hq])]
        rw [e1, e2, of_acted s hi]

/-! ### The two in memory, and the loop's own variable beside them -/
def BothAt (w0 : World) (R m Bc : Nat) (cc : Array Value) (s : RibSt) (t : RefSt) (w : World) : Prop :=
  ∃ vs vw va, RibAt w R vs vw s ∧ RefAt w m va t ∧ (∀ k ∈ ribFoot R vs vw, k ∉ refFoot m va ∧ k ≠ Bc ∧ w0.heap.size ≤ k) ∧ (∀ k ∈ refFoot m va, k ≠ Bc ∧ w0.heap.size ≤ k) ∧ Below w0.heap.size w0 w ∧ w.heap[Bc]? = some (.cells cc 43 (0, 0))
theorem BothAt.ribTo {w0 w w' : World} {R m Bc : Nat} {cc : Array Value} {s s' : RibSt} {t : RefSt} {vs vw va : Value} (h1 : RibAt w R vs vw s) (h2 : RefAt w m va t) (h3 : ∀ k ∈ ribFoot R vs vw, k ∉ refFoot m va ∧ k ≠ Bc ∧ w0.heap.size ≤ k) (h4 : ∀ k ∈ refFoot m va, k ≠ Bc ∧ w0.heap.size ≤ k)
    (h5 : Below w0.heap.size w0 w) (h6 : w.heap[Bc]? = some (.cells cc 43 (0, 0))) (ht : RibTo w R vs vw s' w') : BothAt w0 R m Bc cc s' t w' := by
  obtain ⟨vs', vw', q1, q2, q3⟩ := ht
  have hB := lt_of_heap h6
  refine ⟨vs', vw', va, q1, h2.keep (fun k hk => q2.block k (h2.foot_lt k hk) (fun hF => (h3 k hF).1 hk)), fun k hk => ?_, h4, h5.trans (below_of_ch q2 (fun k hk => (h3 k hk).2.2) h5.size), (q2.block Bc hB (fun hF => (h3 Bc hF).2.1 rfl)).trans h6⟩
  rcases q3 k hk with h | h
  · exact h3 k h
  · exact ⟨fun hG => by have := h2.foot_lt k hG; omega, by omega, Nat.le_trans h5.size h⟩
theorem BothAt.refTo {w0 w w' : World} {R m Bc : Nat} {cc : Array Value} {s : RibSt} {t t' : RefSt} {vs vw va : Value} (h1 : RibAt w R vs vw s) (h2 : RefAt w m va t) (h3 : ∀ k ∈ ribFoot R vs vw, k ∉ refFoot m va ∧ k ≠ Bc ∧ w0.heap.size ≤ k) (h4 : ∀ k ∈ refFoot m va, k ≠ Bc ∧ w0.heap.size ≤ k)
    (h5 : Below w0.heap.size w0 w) (h6 : w.heap[Bc]? = some (.cells cc 43 (0, 0))) (ht : RefTo w m va t' w') : BothAt w0 R m Bc cc s t' w' := by
  obtain ⟨va', q1, q2, q3⟩ := ht
  have hB := lt_of_heap h6
  refine ⟨vs, vw, va', h1.keep (fun k hk => q2.block k (h1.foot_lt k hk) (h3 k hk).1), q1, fun k hk => ⟨fun hG => ?_, (h3 k hk).2⟩, fun k hk => ?_, h5.trans (below_of_ch q2 (fun k hk => (h4 k hk).2) h5.size), (q2.block Bc hB (fun hF => (h4 Bc hF).1 rfl)).trans h6⟩
  · rcases q3 k hG with h | h
    · exact (h3 k hk).1 h
    · have := h1.foot_lt k hk; omega
  · rcases q3 k hk with h | h
    · exact h4 k h
    · exact ⟨by omega, Nat.le_trans h5.size h⟩
theorem BothAt.cell {w0 w : World} {R m Bc : Nat} {cc : Array Value} {s : RibSt} {t : RefSt} (h : BothAt w0 R m Bc cc s t w) (i : Nat) : w.cell? ⟨Bc, i, none⟩ = cc[i]? := by
  obtain ⟨_, _, _, _, _, _, _, _, h6⟩ := h
  exact cell_of_heap h6 i
theorem BothAt.below {w0 w : World} {R m Bc : Nat} {cc : Array Value} {s : RibSt} {t : RefSt} (h : BothAt w0 R m Bc cc s t w) : Below w0.heap.size w0 w := by
  obtain ⟨_, _, _, _, _, _, _, h5, _⟩ := h
  exact h5
theorem BothAt.drewN {w0 w : World} {R m Bc : Nat} {cc : Array Value} {s : RibSt} {t : RefSt} (h : BothAt w0 R m Bc cc s t w) (n : Nat) : BothAt w0 R m Bc cc s t (w.drewN n) := by
  obtain ⟨vs, vw, va, h1, h2, h3, h4, h5, h6⟩ := h
  exact ⟨vs, vw, va, h1.drewN n, h2.drewN n, h3, h4, ⟨h5.os, h5.tape, h5.output, h5.size, h5.block⟩, h6⟩
theorem both_write {w0 w : World} {R m Bc : Nat} {cc : Array Value} {s : RibSt} {t : RefSt} (h : BothAt w0 R m Bc cc s t w) (ha : s.acts < 4611686018427387904) (ab : Option Addr) (cb : Nat) (b : List UInt8) (hb : Rd w0 (.slice ab b.length cb) (bytesV b)) :
    Calls Try.prog 10 #[.pointer (some ⟨R, 0, none⟩), .slice ab b.length cb] w fun e w' => e = .returned (.int .i64 (s.wrote b).1) ∧ BothAt w0 R m Bc cc (s.wrote b).2 t w' := by
  obtain ⟨vs, vw, va, h1, h2, h3, h4, h5, h6⟩ := h
  exact (write_any w R vs vw s h1 ha _ b (hb.below h5)).mono fun e w' ⟨he, ht⟩ => ⟨he, BothAt.ribTo h1 h2 h3 h4 h5 h6 ht⟩
theorem both_refwrite {w0 w : World} {R m Bc : Nat} {cc : Array Value} {s : RibSt} {t : RefSt} (h : BothAt w0 R m Bc cc s t w) (ha : t.acts < 4611686018427387904) (ab : Option Addr) (cb : Nat) (b : List UInt8) (hb : Rd w0 (.slice ab b.length cb) (bytesV b)) (hbl : b.length ≤ 140737488355328) :
    Calls Try.prog 20 #[.pointer (some ⟨m, 0, none⟩), .slice ab b.length cb] w fun e w' => e = .returned (.int .i64 (t.wrote b).1) ∧ BothAt w0 R m Bc cc s (t.wrote b).2 w' := by
  obtain ⟨vs, vw, va, h1, h2, h3, h4, h5, h6⟩ := h
  exact (refwrite_any w m va t h2 ha ab cb b (hb.below h5) hbl).mono fun e w' ⟨he, ht⟩ => ⟨he, BothAt.refTo h1 h2 h3 h4 h5 h6 ht⟩
theorem both_flush {w0 w : World} {R m Bc : Nat} {cc : Array Value} {s : RibSt} {t : RefSt} (h : BothAt w0 R m Bc cc s t w) (ha : s.acts < 4611686018427387904) :
    Calls Try.prog 13 #[.pointer (some ⟨R, 0, none⟩)] w fun e w' => e = .returned (.int .i64 s.flushed.1) ∧ BothAt w0 R m Bc cc s.flushed.2 t w' := by
  obtain ⟨vs, vw, va, h1, h2, h3, h4, h5, h6⟩ := h
  exact (flush_any w R vs vw s h1 ha).mono fun e w' ⟨he, ht⟩ => ⟨he, BothAt.ribTo h1 h2 h3 h4 h5 h6 ht⟩
theorem both_refflush {w0 w : World} {R m Bc : Nat} {cc : Array Value} {s : RibSt} {t : RefSt} (h : BothAt w0 R m Bc cc s t w) (ha : t.acts < 4611686018427387904) :
    Calls Try.prog 21 #[.pointer (some ⟨m, 0, none⟩)] w fun e w' => e = .returned (.int .i64 t.flushed.1) ∧ BothAt w0 R m Bc cc s t.flushed.2 w' := by
  obtain ⟨vs, vw, va, h1, h2, h3, h4, h5, h6⟩ := h
  exact (refflush_any w m va t h2 ha).mono fun e w' ⟨he, ht⟩ => ⟨he, BothAt.refTo h1 h2 h3 h4 h5 h6 ht⟩
theorem both_cut {w0 w : World} {R m Bc : Nat} {cc : Array Value} {s : RibSt} {t : RefSt} (h : BothAt w0 R m Bc cc s t w) (ha : s.acts < 4611686018427387904) (n : Int) :
    Calls Try.prog 17 #[.pointer (some ⟨R, 0, none⟩), .int .i64 n] w fun e w' => e = .returned (.int .i64 (s.cutted n).1) ∧ BothAt w0 R m Bc cc (s.cutted n).2 t w' := by
  obtain ⟨vs, vw, va, h1, h2, h3, h4, h5, h6⟩ := h
  exact (cut_any w R vs vw s h1 ha n).mono fun e w' ⟨he, ht⟩ => ⟨he, BothAt.ribTo h1 h2 h3 h4 h5 h6 ht⟩
theorem both_refcut {w0 w : World} {R m Bc : Nat} {cc : Array Value} {s : RibSt} {t : RefSt} (h : BothAt w0 R m Bc cc s t w) (ha : t.acts < 4611686018427387904) (n : Int) :
    Calls Try.prog 22 #[.pointer (some ⟨m, 0, none⟩), .int .i64 n] w fun e w' => e = .returned (.int .i64 (t.cutted n).1) ∧ BothAt w0 R m Bc cc s (t.cutted n).2 w' := by
  obtain ⟨vs, vw, va, h1, h2, h3, h4, h5, h6⟩ := h
  exact (refcut_any w m va t h2 ha n).mono fun e w' ⟨he, ht⟩ => ⟨he, BothAt.refTo h1 h2 h3 h4 h5 h6 ht⟩
theorem both_off {w0 w : World} {R m Bc : Nat} {cc : Array Value} {s : RibSt} {t : RefSt} (h : BothAt w0 R m Bc cc s t w) (n : Int) :
    Calls Try.prog 14 #[.pointer (some ⟨R, 0, none⟩), .int .i64 n] w fun e w' => e = .returned (.tuple #[]) ∧ BothAt w0 R m Bc cc (s.offed n) t w' := by
  obtain ⟨vs, vw, va, h1, h2, h3, h4, h5, h6⟩ := h
  exact (off_any w R vs vw s n h1).mono fun e w' ⟨he, ht⟩ => ⟨he, BothAt.ribTo h1 h2 h3 h4 h5 h6 ht⟩
theorem both_refoff {w0 w : World} {R m Bc : Nat} {cc : Array Value} {s : RibSt} {t : RefSt} (h : BothAt w0 R m Bc cc s t w) (n : Int) :
    Calls Try.prog 23 #[.pointer (some ⟨m, 0, none⟩), .int .i64 n] w fun e w' => e = .returned (.tuple #[]) ∧ BothAt w0 R m Bc cc s (t.offed n) w' := by
  obtain ⟨vs, vw, va, h1, h2, h3, h4, h5, h6⟩ := h
  exact (refoff_any w m va t n h2).mono fun e w' ⟨he, ht⟩ => ⟨he, BothAt.refTo h1 h2 h3 h4 h5 h6 ht⟩
theorem both_on {w0 w : World} {R m Bc : Nat} {cc : Array Value} {s : RibSt} {t : RefSt} (h : BothAt w0 R m Bc cc s t w) :
    Calls Try.prog 16 #[.pointer (some ⟨R, 0, none⟩)] w fun e w' => e = .returned (.tuple #[]) ∧ BothAt w0 R m Bc cc { s with off := false } t w' := by
  obtain ⟨vs, vw, va, h1, h2, h3, h4, h5, h6⟩ := h
  exact (on_any w R vs vw s h1).mono fun e w' ⟨he, ht⟩ => ⟨he, BothAt.ribTo h1 h2 h3 h4 h5 h6 ht⟩
theorem both_arm {w0 w : World} {R m Bc : Nat} {cc : Array Value} {s : RibSt} {t : RefSt} (h : BothAt w0 R m Bc cc s t w) (n k : Int) (hn : n < 9223372036854775808) :
    Calls Try.prog 24 #[.pointer (some ⟨R, 0, none⟩), .int .i64 n, .int .i64 k] w fun e w' => e = .returned (.tuple #[]) ∧ BothAt w0 R m Bc cc { s with inn := max n 0, keep := k } t w' := by
  obtain ⟨vs, vw, va, h1, h2, h3, h4, h5, h6⟩ := h
  exact (arm_any w R vs vw s h1 n k hn).mono fun e w' ⟨he, ht⟩ => ⟨he, BothAt.ribTo h1 h2 h3 h4 h5 h6 ht⟩
theorem both_refarm {w0 w : World} {R m Bc : Nat} {cc : Array Value} {s : RibSt} {t : RefSt} (h : BothAt w0 R m Bc cc s t w) (n k : Int) (hn : n < 9223372036854775808) :
    Calls Try.prog 25 #[.pointer (some ⟨m, 0, none⟩), .int .i64 n, .int .i64 k] w fun e w' => e = .returned (.tuple #[]) ∧ BothAt w0 R m Bc cc s { t with inn := max n 0, keep := k } w' := by
  obtain ⟨vs, vw, va, h1, h2, h3, h4, h5, h6⟩ := h
  exact (refarm_any w m va t h2 n k hn).mono fun e w' ⟨he, ht⟩ => ⟨he, BothAt.refTo h1 h2 h3 h4 h5 h6 ht⟩
end Go.Proofs.Ytebeafpoblhlhaa
