/- DERIVED. The walk of Append of a log. -/
import Derived.Test.YtebeafpoblhlhaaLogOpen
import Derived.Deep.CutBlock
import Derived.Deep.DeepCutAuto
namespace Go.Proofs.Ytebeafpoblhlhaa
open Go.RowKit
set_option linter.unusedVariables false

theorem LogOwn.at {B : Nat} {w0 w : World} {R L : Nat} {n : Int} {s : RibSt} (h : LogOwn B w0 R L n s w) :
    w.cell? ⟨L, 0, none⟩ = some (.pointer (some ⟨R, 0, none⟩)) ∧ w.cell? ⟨L, 1, none⟩ = some (.int .i64 n) ∧ w.cell? ⟨L, 2, none⟩ = some (.int .i64 0) ∧ (∀ i, w.frozen? ⟨L, i, none⟩ = false) ∧ B ≤ w.heap.size := by
  obtain ⟨vs, vw, h1, h2, h3, h4, h5, h6⟩ := h
  exact ⟨cell_of_heap h6 0, cell_of_heap h6 1, cell_of_heap h6 2, frozen_of_heap h6, h5⟩
theorem LogOwn.step {B : Nat} {w0 w w' : World} {R L : Nat} {n : Int} {s' : RibSt} {vs vw : Value} (h2 : ∀ k ∈ ribFoot R vs vw, B ≤ k ∧ k ≠ L) (h3 : B ≤ L) (h4 : Below B w0 w) (h5 : B ≤ w.heap.size) (h6 : w.heap[L]? = some (.cells #[.pointer (some ⟨R, 0, none⟩), .int .i64 n, .int .i64 0] 60 (0, 0)))
    (h : RibTo w R vs vw s' w') : LogOwn B w0 R L n s' w' := by
  obtain ⟨vs', vw', q1, q2, q3⟩ := h
  have hL := lt_of_heap h6
  exact ⟨vs', vw', q1, fun k hk => (q3 k hk).elim (h2 k) (fun hk => ⟨by omega, by omega⟩), h3, h4.trans (below_of_ch q2 (fun k hk => (h2 k hk).1) h5), Nat.le_trans h5 q2.size, (q2.block L hL (fun hF => (h2 L hF).2 rfl)).trans h6⟩
theorem log_write {B : Nat} {w0 w : World} {R L : Nat} {n : Int} {s : RibSt} (h : LogOwn B w0 R L n s w) (ho : s.off = false) (hi : s.inn = 0) (ha : s.acts < 4611686018427387904) (b : List UInt8) (hfit : s.safe.length + s.waits.length + b.length ≤ 1048576) (vb : Value) (hb : Rd w vb (bytesV b)) :
    Calls Try.prog 10 #[.pointer (some ⟨R, 0, none⟩), vb] w fun e w' => e = .returned (.int .i64 0) ∧ LogOwn B w0 R L n { s with waits := s.waits ++ b, acts := s.acts + 1 } w' := by
  obtain ⟨vs, vw, h1, h2, h3, h4, h5, h6⟩ := h
  refine (write_any w R vs vw s h1 ha vb b hb).mono fun e w' ⟨he, ht⟩ => ?_
  rw [wrote_plain s b ho hi hfit] at he ht
  exact ⟨he, LogOwn.step h2 h3 h4 h5 h6 ht⟩
theorem log_flush {B : Nat} {w0 w : World} {R L : Nat} {n : Int} {s : RibSt} (h : LogOwn B w0 R L n s w) (ho : s.off = false) (hi : s.inn = 0) (ha : s.acts < 4611686018427387904) :
    Calls Try.prog 13 #[.pointer (some ⟨R, 0, none⟩)] w fun e w' => e = .returned (.int .i64 0) ∧ LogOwn B w0 R L n { s with safe := s.safe ++ s.waits, waits := [], acts := s.acts + 1 } w' := by
  obtain ⟨vs, vw, h1, h2, h3, h4, h5, h6⟩ := h
  refine (flush_any w R vs vw s h1 ha).mono fun e w' ⟨he, ht⟩ => ?_
  rw [flushed_plain s ho hi] at he ht
  exact ⟨he, LogOwn.step h2 h3 h4 h5 h6 ht⟩
theorem LogOwn.stored {B : Nat} {w0 w W : World} {R L : Nat} {n m : Int} {s : RibSt} (h : LogOwn B w0 R L n s w) (hO : Only L w W) (hL : W.heap[L]? = some (.cells #[.pointer (some ⟨R, 0, none⟩), .int .i64 m, .int .i64 0] 60 (0, 0))) : LogOwn B w0 R L m s W := by
  obtain ⟨vs, vw, h1, h2, h3, h4, h5, h6⟩ := h
  exact ⟨vs, vw, h1.keep (fun k hk => hO.block k (h2 k hk).2), h2, h3, ⟨hO.os.trans h4.os, hO.tape.trans h4.tape, hO.output.trans h4.output, by rw [hO.size]; exact h4.size, fun k hk => (hO.block k (by omega)).trans (h4.block k hk)⟩, by rw [hO.size]; exact h5, hL⟩
theorem LogOwn.heap {B : Nat} {w0 w : World} {R L : Nat} {n : Int} {s : RibSt} (h : LogOwn B w0 R L n s w) : w.heap[L]? = some (.cells #[.pointer (some ⟨R, 0, none⟩), .int .i64 n, .int .i64 0] 60 (0, 0)) := by
  obtain ⟨vs, vw, h1, h2, h3, h4, h5, h6⟩ := h
  exact h6
/-- The three bytes, as the region makes them. -/
def headC (n : Nat) : Array Value := #[.int .u8 (IntKind.u8.wrap ((n : Int) / 65536)), .int .u8 (IntKind.u8.wrap ((n : Int) / 256)), .int .u8 (IntKind.u8.wrap (n : Int))]
theorem headC_eq (n : Nat) : headC n = (bytesV (headOf n)).toArray := by
  unfold headC headOf bytesV
  simp only [List.map_cons, List.map_nil, UInt8.toNat_ofNat', IntKind.wrap_u8']
  congr <;> omega
theorem head_owns (w : World) (n : Nat) : ((w.alloc (.cells (headC n) 5)).drew).ownsRow w.heap.size 5 1 (.slice (some ⟨w.heap.size, 0, none⟩) 3 3) 3 (bytesV (headOf n)) := by
  refine ⟨rfl, .inr ⟨w.heap.size, 3, headC n, rfl, Nat.le_refl _, heap_alloc_new w _, Nat.le_refl _, by unfold maxLen; omega, rfl, ?_⟩⟩
  rw [headC_eq]; rfl
theorem str_src (w : World) (r : List UInt8) : Src Try.prog 1 9 (.string ⟨r.toArray⟩) r.length (bytesV r) w := by
  have h := Src.ofString (P := Try.prog) (w := w) Try.underlying9 ⟨r.toArray⟩
  rw [str_size] at h
  have e : byteCells ⟨r.toArray⟩ = bytesV r := by simp [byteCells, bytesV]
  rw [e] at h; exact h
def AppendTo (B : Nat) (w0 : World) (R L : Nat) (n : Int) (s' : RibSt) (e : Ending) (w' : World) : Prop := e = .returned (.int .i64 0) ∧ LogOwn B w0 R L (n + 1) s' w'
set_option maxRecDepth 100000 in
set_option maxHeartbeats 1000000 in
theorem append_any {B : Nat} {w0 w : World} {R L : Nat} {n : Int} {s : RibSt} (h : LogOwn B w0 R L n s w) (ho : s.off = false) (hi : s.inn = 0) (ha : s.acts < 140737488351232) (r : List UInt8) (hr : r.length ≤ 65536) (hfit : s.safe.length + s.waits.length + (3 + r.length) ≤ 1048576) (hn : 0 ≤ n ∧ n < 140737488351232) :
    Calls Try.prog 30 #[.pointer (some ⟨L, 0, none⟩), .string ⟨r.toArray⟩] w (AppendTo B w0 R L n { s with safe := s.safe ++ (s.waits ++ frame r), waits := [], acts := s.acts + 1 + 1 }) := by
  obtain ⟨k0, k1, k2, kf, hB⟩ := h.at
  have k0a : ((w.alloc (.cells (headC r.length) 5)).drew).cell? ⟨L, 0, none⟩ = some (.pointer (some ⟨R, 0, none⟩)) := by
    have hb : Below w.heap.size w (w.alloc (.cells (headC r.length) 5)) := (Below.refl _ w).alloc (Nat.le_refl _) _
    exact (h.below hb).at.1
  have hstep : ∀ w' a' c', ((w.alloc (.cells (headC r.length) 5)).drew).grownBy w' (Value.slice (some ⟨w.heap.size, 0, none⟩) 3 3).ownBlock → w'.ownsRow w.heap.size 5 1 (.slice a' (3 + r.length) c') (3 + r.length) (bytesV (headOf r.length) ++ bytesV r) →
      w'.cell? ⟨L, 0, none⟩ = some (.pointer (some ⟨R, 0, none⟩)) ∧ LogOwn B w0 R L n s w' ∧ Rd w' (.slice a' (3 + r.length) c') (bytesV (frame r)) := by
    intro w' a' c' hg hown
    have hch : Ch [] w ((w.alloc (.cells (headC r.length) 5)).drew) := ((Ch.refl [] w).alloc _).drew
    have hb := (hch.grown hg (fun k hk => .inr (by have e : w.heap.size = k := (by simpa [Value.ownBlock] using hk); rw [e]; exact Nat.le_refl _))).below
    have hl := h.below hb
    refine ⟨hl.at.1, hl, ?_⟩
    have := Rd.of_owns hown
    rw [← bytesV_append] at this
    exact this
  have hsz : (⟨r.toArray⟩ : ByteArray).size = r.length := str_size r
  obtain ⟨i5, hi5, hz0, hz1, hz2⟩ := info_parts info5
  have HS := Lib.hid hstep
  clear hstep h
  unfold headC at k0a
  go_enter Try.func30, Try.ntmps30
  go_wp2_with fail
  go_region_law (first | (refine step_append_srcs rfl (.tmp 38) (.tmp 39) 22 9 rfl w.heap.size 5 i5 (.int .u8 0) 1 1 Try.underlying22 hi5 hz0 hz1 hz2 rfl (by decide) _ (by first | (simp [Act.eval]; done) | (simp [Act.eval, Act.put]; done)) _ _ (head_owns w r.length) _ (by first | (simp [Act.eval]; done) | (simp [Act.eval, Act.put]; done)) _ _ (str_src _ r) (by unfold maxLen; omega) (by omega) (by simp) ?_; intro a' c' w' hown hgrow _ hblk; obtain ⟨p0, hl, hrd⟩ := HS.out w' a' c' hgrow hown; have HL := Lib.hid hl; have HR := Lib.hid hrd; clear hown hgrow hblk hl hrd) | (go_simp; go_at_call 10; refine (log_write HL.out ho hi (by omega) (frame r) (by rw [frame_length]; exact hfit) _ HR.out).mono ?_; rintro e w5 ⟨rfl, o5⟩; obtain ⟨q0, q1, q2, qf, _⟩ := o5.at; have O5 := Lib.hid o5; clear o5))
  all_goals
    clear k0 k1 k2 kf k0a
    go_wp2_with fail
    refine (log_flush O5.out ho hi (by show s.acts + 1 < _; omega)).mono ?_
    rintro e w6 ⟨rfl, o6⟩
    obtain ⟨z0, z1, z2, zf, _⟩ := o6.at
    have O6 := Lib.hid o6; clear o6 q0 q1 q2 qf
    go_wp2_with fail
    go_ret
    refine ⟨rfl, LogOwn.stored (n := n) (m := n + 1) ?_ ((Only.refl L w6).setCell.setCell) (heap_setCell_here _ (heap_setCell_here _ O6.out.heap))⟩
    exact O6.out
end Go.Proofs.Ytebeafpoblhlhaa
