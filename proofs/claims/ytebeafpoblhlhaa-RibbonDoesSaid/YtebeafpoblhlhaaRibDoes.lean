/- DERIVED. The walk of RibbonDoes. -/
import Derived.Test.YtebeafpoblhlhaaRibNil
import Derived.Deep.DeepCutAuto
import Derived.Deep.LoopGhost
import Derived.Deep.CutBlock
namespace Go.Proofs.Ytebeafpoblhlhaa
open Go.RowKit
set_option linter.unusedVariables false

def NewRef (w : World) (b : List UInt8) (e : Ending) (w' : World) : Prop :=
  ∃ m va, e = .returned (.pointer (some ⟨m, 0, none⟩)) ∧ RefAt w' m va (ofRib (newRib b)) ∧ Below w.heap.size w w' ∧ ∀ k ∈ refFoot m va, w.heap.size ≤ k
set_option maxHeartbeats 1000000 in
theorem refnew_any (w : World) (ab : Option Addr) (cb : Nat) (b : List UInt8) (hb : Rd w (.slice ab b.length cb) (bytesV b)) (hbl : b.length < 140737488355328) :
    Calls Try.prog 19 #[.slice ab b.length cb] w (NewRef w b) := by
  have hcb : b.length ≤ cb := by
    obtain ⟨_, _, e, h, _⟩ := hb
    have := (Value.slice.inj e).2.2
    rw [bytesV_length] at h; omega
  have fin : ∀ (n : Nat) (w' : World) (M c : Nat), n = min b.length 1048576 → w'.ownsRow w.heap.size 5 1 (.slice (some ⟨M, 0, none⟩) (b.take n).length c) (b.take n).length (bytesV (b.take n)) → w.heap.size ≤ M → M < w'.heap.size → Below w.heap.size w w' →
      NewRef w b (.returned (.pointer (some ⟨w'.heap.size, 0, none⟩))) (w'.alloc (.cells #[.slice (some ⟨M, 0, none⟩) n c, .int .i64 n, .bool true, .int .i64 0, .int .i64 0, .int .i64 0] 45)) := by
    intro n w' M c hn hown hM hM2 hb2
    have htl : (b.take n).length = n := by rw [List.length_take]; omega
    rw [htl] at hown
    have hbt : (ofRib (newRib b)).all = b.take n := by
      show b.take 1048576 ++ [] = b.take n
      rw [List.append_nil]
      by_cases h : b.length ≤ 1048576
      · rw [List.take_of_length_le h, List.take_of_length_le (by omega)]
      · rw [hn, Nat.min_eq_right (by omega)]
    have hsf : (ofRib (newRib b)).safe = n := by
      show (b.take 1048576).length = n
      rw [List.length_take]; omega
    refine ⟨w'.heap.size, .slice (some ⟨M, 0, none⟩) n c, rfl, ⟨?_, ?_, ?_, by rw [hbt, htl]; omega, by rw [hbt, htl, hsf]; exact Nat.le_refl _, by simp [ofRib, newRib], by simp [ofRib, newRib], by simp [ofRib, newRib]⟩, hb2.alloc hb2.size _, ?_⟩
    · rw [heap_alloc_new w' _, hsf]; rfl
    · rw [hbt, htl]
      exact ownsRow_keep (ownsRow_base hown) (fun g hg => Below.heap_alloc _ _ _ (by obtain rfl : M = g := Option.some.inj hg; exact hM2))
    · show [w'.heap.size, M].Nodup
      simp; omega
    · intro k hk
      rcases (show k = w'.heap.size ∨ k = M from by simpa [refFoot, Value.ownBlock, eq_comm] using hk) with rfl | rfl
      · exact hb2.size
      · exact hM
  have HFIN := Lib.hid fin; clear fin
  by_cases hbig : 1048576 < b.length
  · have HRD := Lib.hid (hb.takeN 1048576 (by omega))
    have hcb2 : 1048576 ≤ cb := by omega
    clear hbl hcb hb
    have HTL : Hid ((b.take 1048576).length = 1048576) := by show (b.take 1048576).length = 1048576; rw [List.length_take]; omega
    go_enter Try.func19, Try.ntmps19
    go_wp2_with (first | (at_builtin; refine wpList_copy_bytes0 rfl (.tmp 8) (.tmp 11) rfl w ab cb (b.take 1048576) rfl (by rw [HTL.out]; rfl) HRD.out (by rw [HTL.out]; omega) ?_; intro M c2 w2 hown hM1 hM2 hb2; have HF := Lib.hid (HFIN.out 1048576 w2 M c2 (by omega) hown hM1 hM2 hb2); clear hown hb2; rw [HTL.out]) | fail)
    go_ret
    exact HF.out
  · have HRD := Lib.hid (hb.takeN b.length (Nat.le_refl _))
    clear hb
    have HTL : Hid ((b.take b.length).length = b.length) := by show (b.take b.length).length = b.length; rw [List.length_take]; omega
    go_enter Try.func19, Try.ntmps19
    go_wp2_with (first | (at_builtin; refine wpList_copy_bytes0 rfl (.tmp 8) (.tmp 11) rfl w ab cb (b.take b.length) rfl (by rw [HTL.out]; rfl) HRD.out (by rw [HTL.out]; omega) ?_; intro M c2 w2 hown hM1 hM2 hb2; have HF := Lib.hid (HFIN.out b.length w2 M c2 (by omega) hown hM1 hM2 hb2); clear hown hb2; rw [HTL.out]) | fail)
    go_ret
    exact HF.out

def PairAt (w0 : World) (R m : Nat) (s : RibSt) (w : World) : Prop :=
  ∃ vs vw va, RibAt w R vs vw s ∧ RefAt w m va (ofRib s) ∧ (∀ k ∈ ribFoot R vs vw, k ∉ refFoot m va ∧ w0.heap.size ≤ k) ∧ (∀ k ∈ refFoot m va, w0.heap.size ≤ k) ∧ Below w0.heap.size w0 w
theorem PairAt.alloc {w0 w : World} {R m : Nat} {s : RibSt} (h : PairAt w0 R m s w) (cc : Array Value) : BothAt w0 R m w.heap.size cc s (ofRib s) (w.alloc (.cells cc 43)) := by
  obtain ⟨vs, vw, va, h1, h2, h3, h4, h5⟩ := h
  refine ⟨vs, vw, va, h1.keep (fun k hk => Below.heap_alloc _ _ _ (h1.foot_lt k hk)), h2.keep (fun k hk => Below.heap_alloc _ _ _ (h2.foot_lt k hk)), fun k hk => ⟨(h3 k hk).1, by have := h1.foot_lt k hk; omega, (h3 k hk).2⟩, fun k hk => ⟨by have := h2.foot_lt k hk; omega, h4 k hk⟩, h5.alloc h5.size _, heap_alloc_new w _⟩
theorem BothAt.pair {w0 w : World} {R m Bc : Nat} {cc : Array Value} {s : RibSt} (h : BothAt w0 R m Bc cc s (ofRib s) w) : PairAt w0 R m s w := by
  obtain ⟨vs, vw, va, h1, h2, h3, h4, h5, h6⟩ := h
  exact ⟨vs, vw, va, h1, h2, fun k hk => ⟨(h3 k hk).1, (h3 k hk).2.2⟩, fun k hk => (h4 k hk).2, h5⟩
theorem offed_acts (s : RibSt) (k : Int) : (s.offed k).acts = s.acts := by unfold RibSt.offed; split <;> rfl
theorem acted_acts (s : RibSt) : s.acted.acts = s.acts + 1 := by
  unfold RibSt.acted
  split
  · split
    · rw [offed_acts]
    · rfl
  · rfl
theorem wrote_acts (s : RibSt) (b : List UInt8) : (s.wrote b).2.acts ≤ s.acts + 1 := by
  unfold RibSt.wrote
  split
  · show s.acts ≤ _; omega
  · split
    · show s.acts ≤ _; omega
    · show (RibSt.acted _).acts ≤ _; rw [acted_acts]; exact Int.le_refl _
theorem flushed_acts (s : RibSt) : s.flushed.2.acts ≤ s.acts + 1 := by
  unfold RibSt.flushed
  split
  · show s.acts ≤ _; omega
  · split
    · show s.acted.acts ≤ _; rw [acted_acts]; exact Int.le_refl _
    · show s.acted.acts ≤ _; rw [acted_acts]; exact Int.le_refl _
theorem cutted_acts (s : RibSt) (n : Int) : (s.cutted n).2.acts ≤ s.acts + 1 := by
  unfold RibSt.cutted
  split
  · show s.acts ≤ _; omega
  · split
    · show s.acts ≤ _; omega
    · split
      · show s.acted.acts ≤ _; rw [acted_acts]; exact Int.le_refl _
      · show s.acted.acts ≤ _; rw [acted_acts]; exact Int.le_refl _
/-- Behind a call of the script on both. -/
def MidAt (w : World) (R m Bc : Nat) (cc : Array Value) (K : Nat) (x y : Value) (wx : World) : Prop :=
  ∃ (n : Int) (s : RibSt), x = .int .i64 n ∧ y = .int .i64 n ∧ s.acts ≤ (K : Int) + 1 ∧ BothAt w R m Bc cc s (ofRib s) wx
set_option maxHeartbeats 400000 in
theorem read_off (w : World) (R : Nat) (vs vw : Value) (s : RibSt) (h : RibAt w R vs vw s) (ho : s.off = true) :
    Calls Try.prog 11 #[.pointer (some ⟨R, 0, none⟩)] w fun e w' => e = .returned (.tuple #[.slice none 0 0, .int .i64 70]) ∧ w = w' := by
  have hst := state_any w R vs vw s h
  rw [ho] at hst
  have HST := Lib.hid hst; clear h hst
  go_enter Try.func11, Try.ntmps11
  go_wp2_with fail
  refine (HST.out).mono ?_
  rintro e w' ⟨rfl, rfl⟩
  go_wp2
  go_ret2
  exact ⟨rfl, rfl⟩

theorem PairAt.drewN {w0 w : World} {R m : Nat} {s : RibSt} (h : PairAt w0 R m s w) (n : Nat) : PairAt w0 R m s (w.drewN n) := by
  obtain ⟨vs, vw, va, h1, h2, h3, h4, h5⟩ := h
  exact ⟨vs, vw, va, h1.drewN n, h2.drewN n, h3, h4, ⟨h5.os, h5.tape, h5.output, h5.size, h5.block⟩⟩
def ReadAt (w0 : World) (R m : Nat) (s : RibSt) (ax : Option Addr) (cx : Nat) (w : World) : Prop :=
  PairAt w0 R m s w ∧ Rd w (.slice ax (s.safe.length + s.waits.length) cx) (bytesV (s.safe ++ s.waits)) ∧ ∃ va cva, RefAt w m (.slice va (s.safe.length + s.waits.length) cva) (ofRib s) ∧ ∃ vs vw, RibAt w R vs vw s
theorem off_facts {w0 w : World} {R m Bc : Nat} {cc : Array Value} {s : RibSt} (h : BothAt w0 R m Bc cc s (ofRib s) w) (ho : s.off = true) :
    w.cell? ⟨m, 2, none⟩ = some (.bool false) ∧ w.cell? ⟨m, 3, none⟩ = some (.int .i64 s.acts) ∧
    (Calls Try.prog 11 #[.pointer (some ⟨R, 0, none⟩)] w fun e w' => e = .returned (.tuple #[.slice none 0 0, .int .i64 70]) ∧ w = w') ∧
    (∀ n, Calls Try.prog 12 #[.pointer (some ⟨R, 0, none⟩)] (w.drewN n) fun e w'' => e = .returned (.int .i64 s.acts) ∧ ∃ m, w'' = w.drewN m) ∧
    (∀ n, Calls Try.prog 15 #[.pointer (some ⟨R, 0, none⟩)] (w.drewN n) fun e w'' => e = .returned (.bool true) ∧ ∃ m, w'' = w.drewN m) ∧ PairAt w0 R m s w := by
  have hq := h.pair
  obtain ⟨vs, vw, va, h1, h2, _⟩ := h.pair
  refine ⟨by rw [cell_of_heap h2.cells]; simp [ofRib, ho], by rw [cell_of_heap h2.cells]; rfl, read_off w R vs vw s h1 ho, fun n => ?_, fun n => ?_, hq⟩
  · exact (acts_any _ R vs vw s (h1.drewN n)).mono fun e w' ⟨he, hw⟩ => ⟨he, n, hw.symm⟩
  · exact (down_any _ R vs vw s (h1.drewN n)).mono fun e w' ⟨he, hw⟩ => ⟨by rw [he, ho], n, hw.symm⟩
theorem both_read {w0 w : World} {R m Bc : Nat} {cc : Array Value} {s : RibSt} (h : BothAt w0 R m Bc cc s (ofRib s) w) (ho : s.off = false) :
    Calls Try.prog 11 #[.pointer (some ⟨R, 0, none⟩)] w fun e w' => ∃ ax cx, e = .returned (.tuple #[.slice ax (s.safe.length + s.waits.length) cx, .int .i64 0]) ∧ ReadAt w0 R m s ax cx w' := by
  obtain ⟨vs, vw, va, h1, h2, h3, h4, h5, h6⟩ := h
  refine (read_any w R vs vw s h1 ho).mono fun e w' ⟨ax, cx, he, hw, hb⟩ => ⟨ax, cx, he, ?_, Rd.of_owns hw, ?_⟩
  · exact ⟨vs, vw, va, h1.keep (fun k hk => hb.block k (h1.foot_lt k hk)), h2.keep (fun k hk => hb.block k (h2.foot_lt k hk)), fun k hk => ⟨(h3 k hk).1, (h3 k hk).2.2⟩, fun k hk => (h4 k hk).2, h5.trans (hb.mono h5.size)⟩
  · have hq := h2.keep (fun k hk => hb.block k (h2.foot_lt k hk))
    obtain ⟨a, c, rfl⟩ := owns_form hq.all
    have hl : (ofRib s).all.length = s.safe.length + s.waits.length := by simp [ofRib]
    rw [hl] at hq
    exact ⟨a, c, hq, vs, vw, h1.keep (fun k hk => hb.block k (h1.foot_lt k hk))⟩
set_option maxRecDepth 100000 in
set_option maxHeartbeats 4000000 in
theorem does_any (w : World) (aa : Option Addr) (ca : Nat) (b : List UInt8) (a : Option Addr) (c : Nat) (ls : List CallD) (ra : Rd w (.slice aa b.length ca) (bytesV b)) (hb : b.length ≤ 140737488351232) (hr : RdCalls w a ls) (hm : ls.length ≤ 140737488351232) :
    Calls Try.prog 6 #[.slice aa b.length ca, .slice a ls.length c] w fun e w' => e = .returned (.bool true) ∧ Below w.heap.size w w' := by
  have RA := Lib.hid ra; have HR := Lib.hid hr; clear ra hr
  go_enter Try.func6, Try.ntmps6
  go_wp2_with fail
  refine (alive_any _).mono ?_
  rintro e w1 ⟨rfl, hb1⟩
  have HB1 := Lib.hid hb1; clear hb1
  go_wp2_with fail
  refine (great_any _ _ _ _ _ _ _ (HR.out.below HB1.out) hm hb).mono ?_
  rintro e w2 ⟨g, rfl, hg, hb2⟩
  have HB2 := Lib.hid (HB1.out.trans (hb2.mono HB1.out.size)); have HG := Lib.hid hg; clear hb2 hg
  cases g
  · have h60 : ls.length ≤ 60 := HG.out rfl
    go_wp2_with fail
    refine (new_any w2 _ b (RA.out.below HB2.out) (by omega)).mono ?_
    rintro e w3 ⟨R, vs, vw, rfl, r3, b3, f3⟩
    have HR3 := Lib.hid r3; have HF3 := Lib.hid f3; have HB3 := Lib.hid b3
    have HBB3 := Lib.hid (HB2.out.trans (b3.mono HB2.out.size))
    clear r3 f3 b3
    go_wp2_with fail
    refine (refnew_any w3 _ _ b (RA.out.below HBB3.out) (by omega)).mono ?_
    rintro e w4 ⟨m, va, rfl, r4, b4, f4⟩
    have hpair : PairAt w R m (newRib b) w4 := ⟨vs, vw, va, HR3.out.keep (fun k hk => b4.block k (HR3.out.foot_lt k hk)), r4, fun k hk => ⟨fun hG => by have := HR3.out.foot_lt k hk; have := f4 k hG; omega, by have := HF3.out k hk; have := HB2.out.size; omega⟩, fun k hk => by have := f4 k hk; have := HBB3.out.size; omega, HBB3.out.trans (b4.mono HBB3.out.size)⟩
    have HP := Lib.hid hpair; clear r4 b4 f4 hpair
    go_wp2_with fail
    go_loopg [9, 10, 11, 12, 27] ls.length (fun g x9 x10 x11 x12 i wr => ∃ (k : Nat) (s : RibSt), k ≤ ls.length ∧ g = ls.length - k ∧ i = .int .i64 k ∧ s.acts ≤ k ∧ PairAt w R m s wr)
    case atStart => exact ⟨0, newRib b, Nat.zero_le _, rfl, rfl, by simp [newRib], HP.out⟩
    case round =>
      obtain ⟨k, s, hk, rfl, rfl, hacts, hp⟩ := hrel
      have HPR := Lib.hid hp; clear hp
      by_cases hlt : k < ls.length
      · have hbw : Below w.heap.size w wr := by obtain ⟨_, _, _, _, _, _, _, hb⟩ := HPR.out; exact hb
        obtain ⟨bk, o, rfl, hcell⟩ := HR.out (by intro e; rw [e] at hlt; exact absurd hlt (Nat.not_lt_zero _))
        obtain ⟨l, hl⟩ : ∃ l, ls[k]? = some l := ⟨_, List.getElem?_eq_getElem hlt⟩
        obtain ⟨kd, nn, kk, bb⟩ := l
        obtain ⟨ai, ci, h1w, h2w, h3w, h4w, h5, h6, h7⟩ := hcell k _ hl
        simp only at h1w h2w h3w h4w h5 h6 h7
        have h1 := below_keeps hbw _ _ h1w
        have h2 := below_keeps hbw _ _ h2w
        have h3 := below_keeps hbw _ _ h3w
        have h4 := below_keeps hbw _ _ h4w
        clear h1w h2w h3w h4w hbw
        have HL := Lib.hid hl
        have hinn : 0 ≤ s.inn := by obtain ⟨_, _, _, q, _⟩ := HPR.out; exact q.inn0
        have hlen : s.safe.length + s.waits.length ≤ 1048576 := by obtain ⟨_, _, _, q, _⟩ := HPR.out; exact q.len
        have hba := HPR.out.alloc #[Value.int .i64 kd, Value.int .i64 nn, Value.int .i64 kk, Value.slice ai bb.length ci]
        have H5 := Lib.hid h5; have HBA := Lib.hid hba
        clear hcell hl h5 hba
        go_upto_block 2 with fail
        go_cut [9, 10] (fun x9 x10 wx => MidAt w R m wr.heap.size #[Value.int .i64 kd, Value.int .i64 nn, Value.int .i64 kk, Value.slice ai bb.length ci] k x9 x10 wx)
        case first =>
          rcases (show kd = 0 ∨ kd = 1 ∨ kd = 2 ∨ kd = 3 ∨ kd = 4 ∨ kd = 5 ∨ ((kd == 0) = false ∧ (kd == 1) = false ∧ (kd == 2) = false ∧ (kd == 3) = false ∧ (kd == 4) = false ∧ (kd == 5) = false) from by simp; omega) with rfl | rfl | rfl | rfl | rfl | rfl | ⟨q0, q1, q2, q3, q4, q5⟩
          · obtain ⟨n, s', hs⟩ : ∃ n s', s.wrote bb = (n, s') := ⟨_, _, rfl⟩
            have hof := of_wrote s bb hinn hlen
            rw [hs] at hof
            have hac : s'.acts ≤ (k : Int) + 1 := by have := wrote_acts s bb; rw [hs] at this; exact Int.le_trans this (by omega)
            have hc1 : ∀ W, BothAt w R m wr.heap.size #[Value.int .i64 0, Value.int .i64 nn, Value.int .i64 kk, Value.slice ai bb.length ci] s (ofRib s) W → Calls Try.prog 10 #[.pointer (some ⟨R, 0, none⟩), .slice ai bb.length ci] W fun e w' => e = .returned (.int .i64 n) ∧ BothAt w R m wr.heap.size #[Value.int .i64 0, Value.int .i64 nn, Value.int .i64 kk, Value.slice ai bb.length ci] s' (ofRib s) w' := by
              intro W h; have := both_write h (by omega) ai ci bb H5.out; rw [hs] at this; exact this
            have hc2 : ∀ W, BothAt w R m wr.heap.size #[Value.int .i64 0, Value.int .i64 nn, Value.int .i64 kk, Value.slice ai bb.length ci] s' (ofRib s) W → Calls Try.prog 20 #[.pointer (some ⟨m, 0, none⟩), .slice ai bb.length ci] W fun e w' => e = .returned (.int .i64 n) ∧ BothAt w R m wr.heap.size #[Value.int .i64 0, Value.int .i64 nn, Value.int .i64 kk, Value.slice ai bb.length ci] s' (ofRib s') w' := by
              intro W h; have := both_refwrite h (by show s.acts < _; omega) ai ci bb H5.out (by omega); rw [hof] at this; exact this
            have HC1 := Lib.hid hc1; have HC2 := Lib.hid hc2; have HAC := Lib.hid hac; clear hs hof hc1 hc2 hac
            go_wp2_with fail
            go_region_with ((first | (go_at_call 10; refine (HC1.out _ (HBA.out.drewN 1)).mono ?_; rintro e w5 ⟨rfl, o5⟩; have p1 := o5.cell 1; have p3 := o5.cell 3; have O5 := Lib.hid o5; clear o5) | (go_at_call 20; refine (HC2.out _ O5.out).mono ?_; rintro e w6 ⟨rfl, o6⟩; have O6 := Lib.hid o6; clear o6)))
            all_goals
              go_wp2_with fail
              go_meet
              exact ⟨n, s', rfl, rfl, HAC.out, O6.out⟩
          · obtain ⟨n, s', hs⟩ : ∃ n s', s.flushed = (n, s') := ⟨_, _, rfl⟩
            have hof := of_flushed s hinn
            rw [hs] at hof
            have hac : s'.acts ≤ (k : Int) + 1 := by have := flushed_acts s; rw [hs] at this; exact Int.le_trans this (by omega)
            have hc1 : ∀ W, BothAt w R m wr.heap.size #[Value.int .i64 1, Value.int .i64 nn, Value.int .i64 kk, Value.slice ai bb.length ci] s (ofRib s) W → Calls Try.prog 13 #[.pointer (some ⟨R, 0, none⟩)] W fun e w' => e = .returned (.int .i64 n) ∧ BothAt w R m wr.heap.size #[Value.int .i64 1, Value.int .i64 nn, Value.int .i64 kk, Value.slice ai bb.length ci] s' (ofRib s) w' := by
              intro W h; have := both_flush h (by omega) ; rw [hs] at this; exact this
            have hc2 : ∀ W, BothAt w R m wr.heap.size #[Value.int .i64 1, Value.int .i64 nn, Value.int .i64 kk, Value.slice ai bb.length ci] s' (ofRib s) W → Calls Try.prog 21 #[.pointer (some ⟨m, 0, none⟩)] W fun e w' => e = .returned (.int .i64 n) ∧ BothAt w R m wr.heap.size #[Value.int .i64 1, Value.int .i64 nn, Value.int .i64 kk, Value.slice ai bb.length ci] s' (ofRib s') w' := by
              intro W h; have := both_refflush h (by show s.acts < _; omega) ; rw [hof] at this; exact this
            have HC1 := Lib.hid hc1; have HC2 := Lib.hid hc2; have HAC := Lib.hid hac; clear hs hof hc1 hc2 hac
            go_wp2_with fail
            refine (HC1.out _ HBA.out).mono ?_
            rintro e w5 ⟨rfl, o5⟩
            have O5 := Lib.hid o5; clear o5
            go_wp2_with fail
            refine (HC2.out _ O5.out).mono ?_
            rintro e w6 ⟨rfl, o6⟩
            have O6 := Lib.hid o6; clear o6
            go_wp2_with fail
            go_meet
            exact ⟨n, s', rfl, rfl, HAC.out, O6.out⟩
          · obtain ⟨n, s', hs⟩ : ∃ n s', s.cutted nn = (n, s') := ⟨_, _, rfl⟩
            have hof := of_cutted s nn hinn
            rw [hs] at hof
            have hac : s'.acts ≤ (k : Int) + 1 := by have := cutted_acts s nn; rw [hs] at this; exact Int.le_trans this (by omega)
            have hc1 : ∀ W, BothAt w R m wr.heap.size #[Value.int .i64 2, Value.int .i64 nn, Value.int .i64 kk, Value.slice ai bb.length ci] s (ofRib s) W → Calls Try.prog 17 #[.pointer (some ⟨R, 0, none⟩), .int .i64 nn] W fun e w' => e = .returned (.int .i64 n) ∧ BothAt w R m wr.heap.size #[Value.int .i64 2, Value.int .i64 nn, Value.int .i64 kk, Value.slice ai bb.length ci] s' (ofRib s) w' := by
              intro W h; have := both_cut h (by omega) nn; rw [hs] at this; exact this
            have hc2 : ∀ W, BothAt w R m wr.heap.size #[Value.int .i64 2, Value.int .i64 nn, Value.int .i64 kk, Value.slice ai bb.length ci] s' (ofRib s) W → Calls Try.prog 22 #[.pointer (some ⟨m, 0, none⟩), .int .i64 nn] W fun e w' => e = .returned (.int .i64 n) ∧ BothAt w R m wr.heap.size #[Value.int .i64 2, Value.int .i64 nn, Value.int .i64 kk, Value.slice ai bb.length ci] s' (ofRib s') w' := by
              intro W h; have := both_refcut h (by show s.acts < _; omega) nn; rw [hof] at this; exact this
            have HC1 := Lib.hid hc1; have HC2 := Lib.hid hc2; have HAC := Lib.hid hac; clear hs hof hc1 hc2 hac
            go_wp2_with fail
            go_region_with ((first | (go_at_call 17; refine (HC1.out _ (HBA.out.drewN 1)).mono ?_; rintro e w5 ⟨rfl, o5⟩; have p1 := o5.cell 1; have p3 := o5.cell 3; have O5 := Lib.hid o5; clear o5) | (go_at_call 22; refine (HC2.out _ O5.out).mono ?_; rintro e w6 ⟨rfl, o6⟩; have O6 := Lib.hid o6; clear o6)))
            all_goals
              go_wp2_with fail
              go_meet
              exact ⟨n, s', rfl, rfl, HAC.out, O6.out⟩
          · go_wp2_with fail
            refine (both_off HBA.out nn).mono ?_
            rintro e w5 ⟨rfl, o5⟩
            have p1 := o5.cell 1
            have O5 := Lib.hid o5; clear o5
            go_wp2_with fail
            refine (both_refoff O5.out nn).mono ?_
            rintro e w6 ⟨rfl, o6⟩
            rw [of_offed] at o6
            have O6 := Lib.hid o6; clear o6
            go_wp2_with fail
            go_meet
            exact ⟨0, s.offed nn, rfl, rfl, by rw [offed_acts]; omega, O6.out⟩
          · go_wp2_with fail
            refine (both_on HBA.out).mono ?_
            rintro e w5 ⟨rfl, o5⟩
            obtain ⟨vs5, vw5, va5, q1, q2, q3, q4, q5, q6⟩ := o5
            have p2 : w5.cell? ⟨m, 2, none⟩ = some (.bool (ofRib s).power) := by rw [cell_of_heap q2.cells]; rfl
            have pf := frozen_of_heap q2.cells
            have hto : RefTo w5 m va5 (ofRib { s with off := false }) (w5.setCell ⟨m, 2, none⟩ (.bool true)) := RefTo.plain q2 (Only.refl m _).setCell (heap_setCell_here _ q2.cells) rfl q2.safe q2.inn0 q2.inn1 q2.acts0
            have O6 := Lib.hid (BothAt.refTo q1 q2 q3 q4 q5 q6 hto)
            clear q1 q2 q3 q4 q5 q6 hto
            go_wp2_with fail
            go_meet
            exact ⟨0, { s with off := false }, rfl, rfl, by show s.acts ≤ _; omega, O6.out⟩
          · go_wp2_with fail
            refine (both_arm HBA.out nn kk h7).mono ?_
            rintro e w5 ⟨rfl, o5⟩
            have p1 := o5.cell 1
            have p2 := o5.cell 2
            have O5 := Lib.hid o5; clear o5
            go_wp2_with fail
            refine (both_refarm O5.out nn kk h7).mono ?_
            rintro e w6 ⟨rfl, o6⟩
            have O6 := Lib.hid o6; clear o6
            go_wp2_with fail
            go_meet
            exact ⟨0, { s with inn := max nn 0, keep := kk }, rfl, rfl, by show s.acts ≤ _; omega, O6.out⟩
          · go_wp2_with fail
            go_meet
            exact ⟨0, s, rfl, rfl, by omega, HBA.out⟩
        case rest =>
          obtain ⟨n, s', rfl, rfl, hac, hB⟩ := hcut
          have HBB := Lib.hid hB; have HAC := Lib.hid hac
          clear hB hac
          cases hoff : s'.off
          · go_wp2_with fail
            refine (both_read HBB.out hoff).mono ?_
            rintro e w7 ⟨ax, cx, rfl, o7⟩
            have hO := o7
            obtain ⟨hb7, hx7, va7, cva, r7, hz7⟩ := o7
            have p2 : w7.cell? ⟨m, 2, none⟩ = some (.bool true) := by rw [cell_of_heap r7.cells]; simp [ofRib, hoff]
            have p3 : w7.cell? ⟨m, 3, none⟩ = some (.int .i64 s'.acts) := by rw [cell_of_heap r7.cells]; rfl
            have p0 : w7.cell? ⟨m, 0, none⟩ = some (.slice va7 (s'.safe.length + s'.waits.length) cva) := by rw [cell_of_heap r7.cells]; rfl
            have hc1 : ∀ n, (convert 22 9 (.slice ax (s'.safe.length + s'.waits.length) cx)).run Try.prog (w7.drewN n) = .ok (.string ⟨(s'.safe ++ s'.waits).toArray⟩) (w7.drewN n) := fun n => by
              have := hx7
              rw [← List.length_append] at this ⊢
              exact conv_at (w := w7.drewN n) this
            have hc2 : ∀ n, (convert 22 9 (.slice va7 (s'.safe.length + s'.waits.length) cva)).run Try.prog (w7.drewN n) = .ok (.string ⟨(s'.safe ++ s'.waits).toArray⟩) (w7.drewN n) := fun n => by
              have h0 : w7.ownsRow 0 5 1 (.slice va7 (s'.safe.length + s'.waits.length) cva) (s'.safe ++ s'.waits).length (bytesV (s'.safe ++ s'.waits)) := r7.all
              rw [← List.length_append] at h0 ⊢
              exact conv_at (w := w7.drewN n) (Rd.of_owns h0)
            obtain ⟨vs7, vw7, hr7⟩ := hz7
            have ha : ∀ n, Calls Try.prog 12 #[.pointer (some ⟨R, 0, none⟩)] (w7.drewN n) fun e w'' => e = .returned (.int .i64 s'.acts) ∧ ∃ m, w'' = w7.drewN m := fun n => (acts_any _ R vs7 vw7 s' (hr7.drewN n)).mono fun e w' ⟨he, hw⟩ => ⟨he, n, hw.symm⟩
            have hd : ∀ n, Calls Try.prog 15 #[.pointer (some ⟨R, 0, none⟩)] (w7.drewN n) fun e w'' => e = .returned (.bool false) ∧ ∃ m, w'' = w7.drewN m := fun n => (down_any _ R vs7 vw7 s' (hr7.drewN n)).mono fun e w' ⟨he, hw⟩ => ⟨by rw [he, hoff], n, hw.symm⟩
            have HA := Lib.hid ha; have HD := Lib.hid hd; have HO := Lib.hid hb7
            clear hO r7 hx7 hr7 ha hd hb7 hoff
            go_wp2_with fail
            go_quiet ((first | (go_at_call 12; exact HA.out _) | (go_at_call 15; exact HD.out _)))
            go_wp2_with fail
            go_roundg (ls.length - (k+1))
            case measure => omega
            case rel => exact ⟨k+1, s', by omega, rfl, by go_num, HAC.out, HO.out.drewN _⟩
          · obtain ⟨p2, p3, hrd, ha, hd, hpr⟩ := off_facts HBB.out hoff
            have HA := Lib.hid ha; have HD := Lib.hid hd; have HO := Lib.hid hpr; have HRD := Lib.hid hrd
            clear ha hd hrd hpr hoff
            go_wp2_with fail
            refine (HRD.out).mono ?_
            rintro e w7 ⟨rfl, rfl⟩
            go_wp2_with fail
            go_quiet ((first | (go_at_call 12; exact HA.out _) | (go_at_call 15; exact HD.out _)))
            go_wp2_with fail
            go_roundg (ls.length - (k+1))
            case measure => omega
            case rel => exact ⟨k+1, s', by omega, rfl, by go_num, HAC.out, HO.out.drewN _⟩
      · have hbw : Below w.heap.size w wr := by obtain ⟨_, _, _, _, _, _, _, hb⟩ := HPR.out; exact hb
        have HBW := Lib.hid hbw
        obtain rfl : k = ls.length := by omega
        clear hbw hacts
        go_wp2_with fail
        refine (off_nil _ _).mono ?_
        rintro e w7 ⟨rfl, rfl⟩
        go_wp2_with fail
        refine (on_nil _).mono ?_
        rintro e w7 ⟨rfl, rfl⟩
        go_wp2_with fail
        refine (arm_nil _ _ _).mono ?_
        rintro e w7 ⟨rfl, rfl⟩
        go_wp2_with fail
        refine (read_nil _).mono ?_
        rintro e w7 ⟨rfl, rfl⟩
        go_wp2_with fail
        refine (write_nil _ _).mono ?_
        rintro e w7 ⟨rfl, rfl⟩
        go_wp2_with fail
        refine (flush_nil _).mono ?_
        rintro e w7 ⟨rfl, rfl⟩
        go_wp2_with fail
        refine (cut_nil _ _).mono ?_
        rintro e w7 ⟨rfl, rfl⟩
        go_wp2_with fail
        refine (acts_nil _).mono ?_
        rintro e w7 ⟨rfl, rfl⟩
        go_wp2_with fail
        refine (down_nil _).mono ?_
        rintro e w7 ⟨rfl, rfl⟩
        go_wp2_with fail
        go_ret
        exact ⟨rfl, HBW.out⟩
  · go_wp2_with fail
    go_ret
    exact ⟨rfl, HB2.out⟩
end Go.Proofs.Ytebeafpoblhlhaa
