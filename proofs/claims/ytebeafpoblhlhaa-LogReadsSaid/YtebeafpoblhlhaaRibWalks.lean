/- DERIVED. The walks of package ribbon. -/
import Derived.Test.YtebeafpoblhlhaaRows
import Derived.WalkKit
import Derived.WalkSpells
import Derived.WalkLawsBesides
import Derived.BigRegion
import Derived.Deep.QuietTactic
import Derived.BigQuiet
import Derived.Test.YtebeafpoblhlhaaMem
namespace Go.Proofs.Ytebeafpoblhlhaa
open Go.RowKit

/-- What a ribbon holds. -/
structure RibSt where
  safe : List UInt8
  waits : List UInt8
  off : Bool
  acts : Int
  inn : Int
  keep : Int
/-- The blocks of a ribbon whose struct lies in block R. -/
def ribFoot (R : Nat) (vs vw : Value) : List Nat := R :: (vs.ownBlock.toList ++ vw.ownBlock.toList)
structure RibAt (w : World) (R : Nat) (vs vw : Value) (s : RibSt) : Prop where
  cells : w.heap[R]? = some (.cells #[vs, vw, .bool s.off, .int .i64 s.acts, .int .i64 s.inn, .int .i64 s.keep] 56 (0, 0))
  safe : w.ownsRow 0 5 1 vs s.safe.length (bytesV s.safe)
  waits : w.ownsRow 0 5 1 vw s.waits.length (bytesV s.waits)
  apart : (ribFoot R vs vw).Nodup
  len : s.safe.length + s.waits.length ≤ 1048576
  inn0 : 0 ≤ s.inn
  inn1 : s.inn < 9223372036854775808
  acts0 : 0 ≤ s.acts

theorem RibAt.ne_safe {w : World} {R : Nat} {vs vw : Value} {s : RibSt} (h : RibAt w R vs vw s) : some R ≠ vs.ownBlock := by
  have := h.apart
  intro e
  simp [ribFoot, ← e] at this
theorem RibAt.ne_waits {w : World} {R : Nat} {vs vw : Value} {s : RibSt} (h : RibAt w R vs vw s) : some R ≠ vw.ownBlock := by
  have := h.apart
  intro e
  simp [ribFoot, ← e] at this
theorem RibAt.lt {w : World} {R : Nat} {vs vw : Value} {s : RibSt} (h : RibAt w R vs vw s) : R < w.heap.size := lt_of_heap h.cells

theorem info5 : (Try.prog.info? 5).map (fun i => (i.zero, i.size, i.bytes)) = some (some (.int .u8 0), 1, 1) := by kernel_rfl

set_option maxHeartbeats 400000 in
theorem state_any (w : World) (R : Nat) (vs vw : Value) (s : RibSt) (h : RibAt w R vs vw s) :
    Calls Try.prog 32 #[.pointer (some ⟨R, 0, none⟩)] w fun e w' => e = .returned (.int .i64 (if s.off then 70 else 0)) ∧ w = w' := by
  have h2 : w.cell? ⟨R, 2, none⟩ = some (.bool s.off) := by rw [cell_of_heap h.cells]; rfl
  cases hoff : s.off
  all_goals
    rw [hoff] at h2
    go_enter Try.func32, Try.ntmps32
    go_wp2
    go_ret
    exact ⟨rfl, rfl⟩
set_option maxHeartbeats 400000 in
theorem state_nil (w : World) :
    Calls Try.prog 32 #[.pointer none] w fun e w' => e = .returned (.int .i64 2) ∧ w = w' := by
  go_enter Try.func32, Try.ntmps32
  go_wp2
  go_ret
  exact ⟨rfl, rfl⟩

/-- The power goes. -/
def RibSt.kept (s : RibSt) (keep : Int) : Nat := (min (max keep 0) (s.waits.length : Int)).toNat
def RibSt.offed (s : RibSt) (keep : Int) : RibSt :=
  if s.off then s else { s with safe := s.safe ++ s.waits.take (s.kept keep), waits := [], off := true, inn := 0 }

/-- What lies at the end of a method that wrote into the struct's block alone behind an append onto the safe bytes. -/
theorem rib_close {w w' W : World} {R : Nat} {vs vw : Value} {s : RibSt} (h : RibAt w R vs vw s) (hgrow : w.grownBy w' vs.ownBlock) (hO : Only R w' W)
    (a' : Option Addr) (n c' : Nat) (s' : RibSt) (hcells : W.heap[R]? = some (.cells #[.slice a' n c', .slice none 0 0, .bool s'.off, .int .i64 s'.acts, .int .i64 s'.inn, .int .i64 s'.keep] 56 (0, 0)))
    (hblk : (Value.slice a' n c').ownBlock = vs.ownBlock ∨ (Value.slice a' n c').ownBlock = some w.heap.size)
    (hown : w'.ownsRow 0 5 1 (.slice a' n c') s'.safe.length (bytesV s'.safe)) (hwt : s'.waits = []) (hlen : s'.safe.length ≤ 1048576) (hi0 : 0 ≤ s'.inn) (hi1 : s'.inn < 9223372036854775808) (hacts : 0 ≤ s'.acts) :
    ∃ vs' vw', RibAt W R vs' vw' s' ∧ Ch (ribFoot R vs vw) w W ∧ ∀ k ∈ ribFoot R vs' vw', k ∈ ribFoot R vs vw ∨ w.heap.size ≤ k := by
  have hR := h.lt
  have hne : some R ≠ (Value.slice a' n c').ownBlock := by
    rcases hblk with e | e <;> rw [e]
    · exact h.ne_safe
    · intro e; have := Option.some.inj e; omega
  refine ⟨.slice a' n c', .slice none 0 0, ⟨hcells, ownsRow_keep hown (fun g hg => hO.block g (fun e => hne (by rw [← e, hg]))), ?_, ?_, by rw [hwt]; simpa using hlen, hi0, hi1, hacts⟩, ?_, ?_⟩
  · rw [hwt]; exact World.ownsRow_nil W 0 5 1
  · have : (Value.slice none 0 0).ownBlock = none := rfl
    unfold ribFoot
    rw [this]
    cases hb : (Value.slice a' n c').ownBlock with
    | none => simp
    | some g => simp; intro e; exact hne (by rw [hb, e])
  · have h1 : Ch (ribFoot R vs vw) w w' := (Ch.refl _ w).grown hgrow (fun k e => .inl (by simp [ribFoot, e]))
    exact hO.ch h1 (.inl (by simp [ribFoot]))
  · intro k hk
    have : (Value.slice none 0 0).ownBlock = none := rfl
    unfold ribFoot at hk ⊢
    rw [this] at hk
    simp only [Option.toList_none, List.append_nil, List.mem_cons, Option.mem_toList] at hk
    rcases hk with rfl | hk
    · exact .inl (by simp)
    · rcases hblk with e | e
      · rw [e] at hk; exact .inl (by simp [hk])
      · rw [e] at hk; exact .inr (by have := Option.some.inj hk; omega)
theorem grown_drew {w w' : World} {r : Option Nat} (h : w.drew.grownBy w' r) : w.grownBy w' r := ⟨h.os, h.tape, h.output, h.size, h.block⟩
theorem take_src {P : Program} {w : World} {tx e' : TypeId} (hk : P.underlying tx = some (.slice e')) {a : Option Addr} {l c : Nat} {b : List UInt8} {base : Nat} {e : TypeId} (h : w.ownsRow base e 1 (.slice a l c) b.length (bytesV b)) (n : Nat) (hn : n ≤ b.length) :
    Src P 1 tx (.slice a n c) n (bytesV (b.take n)) w ∧ n ≤ c := by
  obtain ⟨a', c', e1, hpre⟩ := owns_take h n hn
  obtain ⟨rfl, _, rfl⟩ : a = a' ∧ l = b.length ∧ c = c' := by simpa using e1
  rw [← bytesV_take] at hpre
  have := (Rd.of_owns hpre).src (P := P) hk (bytesV_one _)
  rw [hpre.1, Nat.mul_one] at this
  refine ⟨this, ?_⟩
  rcases hpre.2 with ⟨e, h⟩ | ⟨g, cap, cur, e, _, _, hle, _⟩ <;> simp_all
theorem kept_cases (s : RibSt) (keep : Int) : (keep < 0 ∧ s.kept keep = 0 ∧ 0 ≤ s.waits.length) ∨ (∃ n : Nat, keep = n ∧ s.kept keep = n ∧ n ≤ s.waits.length) ∨ (¬ keep < 0 ∧ (s.waits.length : Int) < keep ∧ s.kept keep = s.waits.length ∧ s.waits.length ≤ s.waits.length) := by
  unfold RibSt.kept
  by_cases h : keep < 0
  · exact .inl ⟨h, by omega, by omega⟩
  · by_cases hk : keep ≤ s.waits.length
    · exact .inr (.inl ⟨keep.toNat, by omega, by omega, by omega⟩)
    · exact .inr (.inr ⟨h, by omega, by omega, by omega⟩)
theorem offed_safe (s : RibSt) (keep : Int) (n : Nat) (ho : s.off = false) (hn : s.kept keep = n) : s.offed keep = { s with safe := s.safe ++ s.waits.take n, waits := [], off := true, inn := 0 } := by
  unfold RibSt.offed
  rw [ho, hn]; rfl
theorem offed_on (s : RibSt) (keep : Int) (ho : s.off = true) : s.offed keep = s := by
  unfold RibSt.offed
  rw [ho]; rfl
theorem off_done {w w' W : World} {R : Nat} {vs vw : Value} {s : RibSt} {keep : Int} {n : Nat} {a' : Option Addr} {c' : Nat} (h : RibAt w R vs vw s) (ho : s.off = false) (hn : s.kept keep = n) (hle : n ≤ s.waits.length) (hgrow : w.grownBy w' vs.ownBlock) (hO : Only R w' W)
    (hcells : W.heap[R]? = some (.cells #[.slice a' (s.safe.length + n) c', .slice none 0 0, .bool true, .int .i64 s.acts, .int .i64 0, .int .i64 s.keep] 56 (0, 0)))
    (hblk : (Value.slice a' (s.safe.length + n) c').ownBlock = vs.ownBlock ∨ (Value.slice a' (s.safe.length + n) c').ownBlock = some w.heap.size)
    (hown : w'.ownsRow 0 5 1 (.slice a' (s.safe.length + n) c') (s.safe.length + n) (bytesV s.safe ++ bytesV (s.waits.take n))) :
    ∃ vs' vw', RibAt W R vs' vw' (s.offed keep) ∧ Ch (ribFoot R vs vw) w W ∧ ∀ k ∈ ribFoot R vs' vw', k ∈ ribFoot R vs vw ∨ w.heap.size ≤ k := by
  rw [offed_safe s keep n ho hn]
  have hl : (s.safe ++ s.waits.take n).length = s.safe.length + n := by rw [List.length_append, List.length_take]; omega
  have hlen := h.len
  refine rib_close h hgrow hO a' _ c' _ hcells hblk ?_ rfl ?_ (by simp) (by simp) h.acts0
  · show w'.ownsRow 0 _ 1 _ (s.safe ++ s.waits.take n).length (bytesV (s.safe ++ s.waits.take n))
    rw [hl, bytesV_append]; exact hown
  · show (s.safe ++ s.waits.take n).length ≤ _
    rw [hl]; omega

set_option maxHeartbeats 1000000 in
theorem off_is (w : World) (R : Nat) (vs vw : Value) (s : RibSt) (keep : Int) (h : RibAt w R vs vw s) (ho : s.off = false) :
    Calls Try.prog 14 #[.pointer (some ⟨R, 0, none⟩), .int .i64 keep] w fun e w' => e = .returned (.tuple #[]) ∧
      ∃ vs' vw', RibAt w' R vs' vw' (s.offed keep) ∧ Ch (ribFoot R vs vw) w w' ∧ ∀ k ∈ ribFoot R vs' vw', k ∈ ribFoot R vs vw ∨ w.heap.size ≤ k := by
  have h0 : w.cell? ⟨R, 0, none⟩ = some vs := by rw [cell_of_heap h.cells]; rfl
  have h1 : w.cell? ⟨R, 1, none⟩ = some vw := by rw [cell_of_heap h.cells]; rfl
  have h2 : w.cell? ⟨R, 2, none⟩ = some (.bool false) := by rw [cell_of_heap h.cells, ho]; rfl
  have hf := frozen_of_heap h.cells
  have hlen := h.len
  obtain ⟨i0, hi, hz0, hz1, hz2⟩ := info_parts info5
  obtain ⟨av, cs, rfl⟩ := owns_form h.safe
  obtain ⟨aw, cw, rfl⟩ := owns_form h.waits
  have hdst : w.drew.ownsRow 0 5 1 (.slice av s.safe.length cs) s.safe.length (bytesV s.safe) := h.safe
  have hre : ∀ (w' : World), w.drew.grownBy w' (Value.slice av s.safe.length cs).ownBlock → w'.heap[R]? = some (.cells #[.slice av s.safe.length cs, .slice aw s.waits.length cw, .bool false, .int .i64 s.acts, .int .i64 s.inn, .int .i64 s.keep] 56 (0, 0)) := by
    intro w' hg
    rw [hg.block R h.lt h.ne_safe, ← ho]; exact h.cells
  have HRE := Lib.hid hre
  have HTS := Lib.hid (fun n hn => take_src (P := Try.prog) (w := w.drew) Try.underlying22 h.waits n hn)
  have HH := Lib.hid h; have HO := Lib.hid ho; clear h hre ho
  rcases kept_cases s keep with ⟨hk, hkk, hle⟩ | ⟨n, rfl, hkk, hle⟩ | ⟨hk0, hk, hkk, hle⟩
  all_goals
    have HK := Lib.hid hkk; clear hkk
    obtain ⟨hsrc, hcap⟩ := HTS.out _ hle
    go_enter Try.func14, Try.ntmps14
    go_wp2_with fail
    go_region_law (refine step_append_srcs rfl (.tmp 26) (.tmp 32) 22 22 rfl 0 5 i0 (.int .u8 0) 1 1 Try.underlying22 hi hz0 hz1 hz2 rfl (by decide) (.slice av s.safe.length cs) (by simp [Act.eval, Act.put]) _ _ hdst _ (by simp [Act.eval, Act.put]) _ _ hsrc (by unfold maxLen; omega) (by omega) (Nat.zero_le _) ?_; intro a' c' w' hown hgrow _ hblk; have hR := HRE.out w' hgrow; have k0 := cell_of_heap hR 0; have k1 := cell_of_heap hR 1; have k2 := cell_of_heap hR 2; have k4 := cell_of_heap hR 4; have kf := frozen_of_heap hR; have HR := Lib.hid hR; clear hR)
    all_goals
      go_wp2
      go_end0
      exact ⟨rfl, off_done HH.out HO.out HK.out hle (grown_drew hgrow) (((Only.refl R _).setCell.setCell).setCell.setCell) (heap_setCell_here _ (heap_setCell_here _ (heap_setCell_here _ (heap_setCell_here _ HR.out)))) hblk hown⟩

/-- The contract's end: the ribbon in block R is now in state s', and nothing else has changed. -/
def RibTo (w : World) (R : Nat) (vs vw : Value) (s' : RibSt) (w' : World) : Prop :=
  ∃ vs' vw', RibAt w' R vs' vw' s' ∧ Ch (ribFoot R vs vw) w w' ∧ ∀ k ∈ ribFoot R vs' vw', k ∈ ribFoot R vs vw ∨ w.heap.size ≤ k
theorem RibTo.refl {w : World} {R : Nat} {vs vw : Value} {s : RibSt} (h : RibAt w R vs vw s) : RibTo w R vs vw s w := ⟨vs, vw, h, Ch.refl _ _, fun _ h => .inl h⟩
/-- A store of plain fields alone. -/
theorem RibTo.plain {w W : World} {R : Nat} {vs vw : Value} {s s' : RibSt} (h : RibAt w R vs vw s) (hO : Only R w W)
    (hcells : W.heap[R]? = some (.cells #[vs, vw, .bool s'.off, .int .i64 s'.acts, .int .i64 s'.inn, .int .i64 s'.keep] 56 (0, 0)))
    (e1 : s'.safe = s.safe) (e2 : s'.waits = s.waits) (hi0 : 0 ≤ s'.inn) (hi1 : s'.inn < 9223372036854775808) (ha : 0 ≤ s'.acts) : RibTo w R vs vw s' W := by
  refine ⟨vs, vw, ⟨hcells, ?_, ?_, h.apart, by rw [e1, e2]; exact h.len, hi0, hi1, ha⟩, hO.ch (Ch.refl _ _) (.inl (by simp [ribFoot])), fun _ h => .inl h⟩
  · rw [e1]; exact ownsRow_keep h.safe (fun g hg => hO.block g (fun e => h.ne_safe (by rw [← e, hg])))
  · rw [e2]; exact ownsRow_keep h.waits (fun g hg => hO.block g (fun e => h.ne_waits (by rw [← e, hg])))
theorem RibTo.trans {w w1 w2 : World} {R : Nat} {vs vw vs1 vw1 : Value} {s2 : RibSt} (hc : Ch (ribFoot R vs vw) w w1) (hf : ∀ k ∈ ribFoot R vs1 vw1, k ∈ ribFoot R vs vw ∨ w.heap.size ≤ k) (h : RibTo w1 R vs1 vw1 s2 w2) : RibTo w R vs vw s2 w2 := by
  obtain ⟨vs2, vw2, h1, h2, h3⟩ := h
  refine ⟨vs2, vw2, h1, hc.trans h2 hf, fun k hk => ?_⟩
  rcases h3 k hk with h | h
  · exact hf k h
  · exact .inr (Nat.le_trans hc.size h)
set_option maxHeartbeats 400000 in
theorem off_any (w : World) (R : Nat) (vs vw : Value) (s : RibSt) (keep : Int) (h : RibAt w R vs vw s) :
    Calls Try.prog 14 #[.pointer (some ⟨R, 0, none⟩), .int .i64 keep] w fun e w' => e = .returned (.tuple #[]) ∧ RibTo w R vs vw (s.offed keep) w' := by
  cases ho : s.off
  · exact off_is w R vs vw s keep h ho
  · rw [offed_on s keep ho]
    have h2 : w.cell? ⟨R, 2, none⟩ = some (.bool true) := by rw [cell_of_heap h.cells, ho]; rfl
    have HH := Lib.hid h; clear h ho
    go_enter Try.func14, Try.ntmps14
    go_wp2
    refine bodyPost_ret (results_none rfl _ _ _) rfl ?_
    exact ⟨rfl, RibTo.refl HH.out⟩
set_option maxHeartbeats 400000 in
theorem off_nil (w : World) (keep : Int) :
    Calls Try.prog 14 #[.pointer none, .int .i64 keep] w fun e w' => e = .returned (.tuple #[]) ∧ w = w' := by
  go_enter Try.func14, Try.ntmps14
  go_wp2
  refine bodyPost_ret (results_none rfl _ _ _) rfl ?_
  exact ⟨rfl, rfl⟩

/-- One more act; the power may go in it. -/
def RibSt.acted (s : RibSt) : RibSt :=
  if 0 < s.inn then
    (if s.inn - 1 = 0 then ({ s with acts := s.acts + 1, inn := s.inn - 1 } : RibSt).offed s.keep else { s with acts := s.acts + 1, inn := s.inn - 1 })
  else { s with acts := s.acts + 1 }
set_option maxHeartbeats 1000000 in
theorem act_any (w : World) (R : Nat) (vs vw : Value) (s : RibSt) (h : RibAt w R vs vw s) (ha : s.acts < 4611686018427387904) :
    Calls Try.prog 33 #[.pointer (some ⟨R, 0, none⟩)] w fun e w' => e = .returned (.bool s.acted.off) ∧ RibTo w R vs vw s.acted w' := by
  have h2 : w.cell? ⟨R, 2, none⟩ = some (.bool s.off) := by rw [cell_of_heap h.cells]; rfl
  have h3 : w.cell? ⟨R, 3, none⟩ = some (.int .i64 s.acts) := by rw [cell_of_heap h.cells]; rfl
  have h4 : w.cell? ⟨R, 4, none⟩ = some (.int .i64 s.inn) := by rw [cell_of_heap h.cells]; rfl
  have h5 : w.cell? ⟨R, 5, none⟩ = some (.int .i64 s.keep) := by rw [cell_of_heap h.cells]; rfl
  have hf := frozen_of_heap h.cells
  have hi0 := h.inn0; have hi1 := h.inn1; have ha0 := h.acts0
  have HH := Lib.hid h; clear h
  by_cases hin : 0 < s.inn
  · by_cases h1 : s.inn = 1
    · have e : s.acted = ({ s with acts := s.acts + 1, inn := 0 } : RibSt).offed s.keep := by unfold RibSt.acted; rw [if_pos hin, if_pos (by omega), show s.inn - 1 = 0 from by omega]
      rw [e]
      have h1' : (s.inn - 1 == 0) = true := by simp; omega
      have e0 : s.inn - 1 = 0 := by omega
      have hplain : ∀ W, Only R w W → W.heap[R]? = some (.cells #[vs, vw, .bool s.off, .int .i64 (s.acts + 1), .int .i64 (s.inn - 1), .int .i64 s.keep] 56 (0, 0)) → RibTo w R vs vw { s with acts := s.acts + 1, inn := 0 } W := by
        intro W hO hc
        exact RibTo.plain HH.out hO (by rw [hc, e0]) rfl rfl (by simp) (by simp) (by show 0 ≤ s.acts + 1; omega)
      have HP := Lib.hid hplain; clear e h1 hplain e0
      go_enter Try.func33, Try.ntmps33
      go_wp2_with fail
      obtain ⟨vs1, vw1, r1, c1, f1⟩ := HP.out ((w.setCell ⟨R, 3, none⟩ (.int .i64 (s.acts + 1))).setCell ⟨R, 4, none⟩ (.int .i64 (s.inn - 1))) ((Only.refl R _).setCell.setCell) (heap_setCell_here _ (heap_setCell_here _ HH.out.cells))
      refine (off_any _ R vs1 vw1 _ _ r1).mono ?_
      rintro e w2 ⟨rfl, hto⟩
      have hto2 := RibTo.trans c1 f1 hto
      have hto3 := hto2
      obtain ⟨vs2, vw2, r2, _, _⟩ := hto2
      have k2 : w2.cell? ⟨R, 2, none⟩ = some (.bool (({ s with acts := s.acts + 1, inn := 0 } : RibSt).offed s.keep).off) := by rw [cell_of_heap r2.cells]; rfl
      have HT := Lib.hid hto3
      clear r1 c1 f1 hto r2 hto3 h2 h3 h4 h5
      go_wp2
      go_ret
      exact ⟨rfl, HT.out⟩
    · have e : s.acted = { s with acts := s.acts + 1, inn := s.inn - 1 } := by unfold RibSt.acted; rw [if_pos hin, if_neg (by omega)]
      rw [e]
      have h1' : (s.inn - 1 == 0) = false := by simp; omega
      clear e h1
      go_enter Try.func33, Try.ntmps33
      go_wp2
      go_ret
      exact ⟨rfl, RibTo.plain HH.out ((Only.refl R _).setCell.setCell) (heap_setCell_here _ (heap_setCell_here _ HH.out.cells)) rfl rfl (by show 0 ≤ s.inn - 1; omega) (by show s.inn - 1 < _; omega) (by show 0 ≤ s.acts + 1; omega)⟩
  · have e : s.acted = { s with acts := s.acts + 1 } := by unfold RibSt.acted; rw [if_neg hin]
    rw [e]
    clear e
    go_enter Try.func33, Try.ntmps33
    go_wp2
    go_ret
    exact ⟨rfl, RibTo.plain HH.out ((Only.refl R _).setCell) (heap_setCell_here _ HH.out.cells) rfl rfl hi0 hi1 (by show 0 ≤ s.acts + 1; omega)⟩

theorem acted_off (s : RibSt) : s.acted.off = true ∨ s.acted.off = false := by cases s.acted.off <;> simp
theorem RibSt.acted_len (s : RibSt) : s.acted.safe.length + s.acted.waits.length ≤ s.safe.length + s.waits.length := by
  have key : ∀ (t : RibSt) (k : Int), (t.offed k).safe.length + (t.offed k).waits.length ≤ t.safe.length + t.waits.length := by
    intro t k
    unfold RibSt.offed
    split
    · exact Nat.le_refl _
    · simp only [List.length_append, List.length_take, List.length_nil]; omega
  unfold RibSt.acted
  split
  · split
    · exact key _ _
    · exact Nat.le_refl _
  · exact Nat.le_refl _

theorem RibAt.drewN {w : World} {R : Nat} {vs vw : Value} {s : RibSt} (h : RibAt w R vs vw s) (n : Nat) : RibAt (w.drewN n) R vs vw s := ⟨h.cells, h.safe, h.waits, h.apart, h.len, h.inn0, h.inn1, h.acts0⟩
theorem Ch.drewN {S : List Nat} {a w : World} (h : Ch S a w) (n : Nat) : Ch S a (w.drewN n) := ⟨h.os, h.tape, h.output, h.size, h.block⟩
theorem RibTo.drewN {w : World} {R : Nat} {vs vw : Value} {s : RibSt} (h : RibAt w R vs vw s) (n : Nat) : RibTo w R vs vw s (w.drewN n) := ⟨vs, vw, h.drewN n, (Ch.refl _ _).drewN n, fun _ h => .inl h⟩
theorem grown_drewN {w w' : World} {n : Nat} {r : Option Nat} (h : (w.drewN n).grownBy w' r) : w.grownBy w' r := ⟨h.os, h.tape, h.output, h.size, h.block⟩
/-- Behind an append onto what waits and a store into the struct. -/
theorem wrote_mid {w w' W : World} {R : Nat} {vs vw : Value} {s : RibSt} {b : List UInt8} {a' : Option Addr} {c' : Nat} (h : RibAt w R vs vw s) (hgrow : w.grownBy w' vw.ownBlock) (hO : Only R w' W) (hl : s.safe.length + s.waits.length + b.length ≤ 1048576)
    (hcells : W.heap[R]? = some (.cells #[vs, .slice a' (s.waits.length + b.length) c', .bool s.off, .int .i64 s.acts, .int .i64 s.inn, .int .i64 s.keep] 56 (0, 0)))
    (hblk : (Value.slice a' (s.waits.length + b.length) c').ownBlock = vw.ownBlock ∨ (Value.slice a' (s.waits.length + b.length) c').ownBlock = some w.heap.size)
    (hown : w'.ownsRow 0 5 1 (.slice a' (s.waits.length + b.length) c') (s.waits.length + b.length) (bytesV s.waits ++ bytesV b)) :
    RibTo w R vs vw { s with waits := s.waits ++ b } W := by
  have hR := h.lt
  obtain ⟨v', hv'⟩ : ∃ v', v' = Value.slice a' (s.waits.length + b.length) c' := ⟨_, rfl⟩
  rw [← hv'] at hcells hblk hown
  have hne : some R ≠ v'.ownBlock := by
    rcases hblk with e | e <;> rw [e]
    · exact h.ne_waits
    · intro e; have := Option.some.inj e; omega
  have hsl := fun g hg => owns_lt h.safe g hg
  have hap := h.apart
  have hsw : ∀ g, vs.ownBlock = some g → vw.ownBlock ≠ some g := by
    intro g e1 e2
    simp [ribFoot, e1, e2] at hap
  have hsafe : w'.ownsRow 0 5 1 vs s.safe.length (bytesV s.safe) := ownsRow_keep h.safe (fun g hg => hgrow.block g (hsl g hg) (fun e => hsw g hg e.symm))
  refine ⟨vs, v', ⟨hcells, ownsRow_keep hsafe (fun g hg => hO.block g (fun e => h.ne_safe (by rw [← e, hg]))), ?_, ?_, ?_, h.inn0, h.inn1, h.acts0⟩, ?_, ?_⟩
  · show W.ownsRow 0 _ 1 v' (s.waits ++ b).length (bytesV (s.waits ++ b))
    rw [List.length_append, bytesV_append]
    exact ownsRow_keep hown (fun g hg => hO.block g (fun e => hne (by rw [← e, hg])))
  · unfold ribFoot
    have hne2 := h.ne_safe
    cases hb : v'.ownBlock with
    | none =>
      cases hs : vs.ownBlock with
      | none => simp
      | some g => simp; intro e; exact hne2 (by rw [hs, e])
    | some g' =>
      have h1 : R ≠ g' := fun e => hne (by rw [hb, e])
      cases hs : vs.ownBlock with
      | none => simp [h1]
      | some g =>
        have h2 : R ≠ g := fun e => hne2 (by rw [hs, e])
        have h3 : g ≠ g' := by
          rintro rfl
          rcases hblk with e | e
          · rw [hb] at e; exact hsw g hs e.symm
          · rw [hb] at e; have := hsl g hs; have := Option.some.inj e; omega
        simp [h1, h2, h3]
  · show s.safe.length + (s.waits ++ b).length ≤ _
    rw [List.length_append]; omega
  · exact hO.ch ((Ch.refl _ w).grown hgrow (fun k e => .inl (by simp [ribFoot, e]))) (.inl (by simp [ribFoot]))
  · intro k hk
    simp only [ribFoot, List.mem_cons, List.mem_append, Option.mem_toList] at hk ⊢
    rcases hk with rfl | hk | hk
    · exact .inl (.inl rfl)
    · exact .inl (.inr (.inl hk))
    · rcases hblk with e | e
      · rw [e] at hk; exact .inl (.inr (.inr hk))
      · rw [e] at hk; exact .inr (by have := Option.some.inj hk; omega)
/-- Write: what is answered and what then is. -/
def RibSt.wrote (s : RibSt) (b : List UInt8) : Int × RibSt :=
  if s.off then (70, s) else if 1048576 - s.safe.length - s.waits.length < b.length then (71, s)
  else (if ({ s with waits := s.waits ++ b } : RibSt).acted.off then 70 else 0, ({ s with waits := s.waits ++ b } : RibSt).acted)
set_option maxHeartbeats 1000000 in
theorem write_any (w : World) (R : Nat) (vs vw : Value) (s : RibSt) (h : RibAt w R vs vw s) (ha : s.acts < 4611686018427387904) (vb : Value) (b : List UInt8) (hb : Rd w vb (bytesV b)) :
    Calls Try.prog 10 #[.pointer (some ⟨R, 0, none⟩), vb] w fun e w' => e = .returned (.int .i64 (s.wrote b).1) ∧ RibTo w R vs vw (s.wrote b).2 w' := by
  have h0 : w.cell? ⟨R, 0, none⟩ = some vs := by rw [cell_of_heap h.cells]; rfl
  have h1 : w.cell? ⟨R, 1, none⟩ = some vw := by rw [cell_of_heap h.cells]; rfl
  have hlen := h.len
  obtain ⟨i0, hi, hz0, hz1, hz2⟩ := info_parts info5
  obtain ⟨av, cs, rfl⟩ := owns_form h.safe
  obtain ⟨aw, cw, rfl⟩ := owns_form h.waits
  have hst := state_any w R _ _ s h
  have HH := Lib.hid h; clear h
  have hcp := hb
  obtain ⟨ab, cb, rfl, hcb, _⟩ := hcp
  rw [bytesV_length] at hb hcb
  rw [bytesV_length]
  have hsrc : ∀ n, Src Try.prog 1 22 (.slice ab b.length cb) b.length (bytesV b) (w.drewN n) := fun n => by
    have := Rd.src (w := w.drewN n) (P := Try.prog) Try.underlying22 hb (bytesV_one b)
    rw [bytesV_length] at this; exact this
  have hdst : ∀ n, (w.drewN n).ownsRow 0 5 1 (.slice aw s.waits.length cw) s.waits.length (bytesV s.waits) := fun n => HH.out.waits
  have HB := Lib.hid hb; have HSRC := Lib.hid hsrc; have HDST := Lib.hid hdst; clear hb hsrc hdst
  have hre : ∀ (n : Nat) (w' : World), (w.drewN n).grownBy w' (Value.slice aw s.waits.length cw).ownBlock → w'.heap[R]? = some (.cells #[.slice av s.safe.length cs, .slice aw s.waits.length cw, .bool s.off, .int .i64 s.acts, .int .i64 s.inn, .int .i64 s.keep] 56 (0, 0)) := by
    intro n w' hg
    rw [hg.block R HH.out.lt HH.out.ne_waits]; exact HH.out.cells
  have HRE := Lib.hid hre; clear hre
  cases ho : s.off
  · rw [ho] at hst
    have HST := Lib.hid hst; clear hst
    by_cases hfull : 1048576 - s.safe.length - s.waits.length < b.length
    · have e : s.wrote b = (71, s) := by unfold RibSt.wrote; rw [ho, if_neg (by simp), if_pos hfull]
      rw [e]
      clear e
      have hfull' : (1048576 : Int) - s.safe.length - s.waits.length < b.length := by omega
      go_enter Try.func10, Try.ntmps10
      go_wp2_with fail
      refine (HST.out).mono ?_
      rintro e w' ⟨rfl, rfl⟩
      go_wp2_with fail
      go_quiet (fail)
      go_wp2
      go_ret
      exact ⟨rfl, RibTo.drewN HH.out _⟩
    · have hfull' : ¬ (1048576 : Int) - s.safe.length - s.waits.length < b.length := by omega
      have hfit : s.safe.length + s.waits.length + b.length ≤ 1048576 := by omega
      have e : s.wrote b = (if ({ s with waits := s.waits ++ b } : RibSt).acted.off then 70 else 0, ({ s with waits := s.waits ++ b } : RibSt).acted) := by unfold RibSt.wrote; rw [ho, if_neg (by simp), if_neg hfull]
      rw [e]
      clear e
      have HO := Lib.hid ho; clear ho
      have hact : ∀ (W : World) vs1 vw1, RibAt W R vs1 vw1 { s with waits := s.waits ++ b } → Calls Try.prog 33 #[.pointer (some ⟨R, 0, none⟩)] W fun e w' => e = .returned (.bool ({ s with waits := s.waits ++ b } : RibSt).acted.off) ∧ RibTo W R vs1 vw1 ({ s with waits := s.waits ++ b } : RibSt).acted w' := fun W vs1 vw1 r => act_any W R vs1 vw1 _ r ha
      obtain ⟨t, ht⟩ : ∃ t, t = ({ s with waits := s.waits ++ b } : RibSt).acted := ⟨_, rfl⟩
      rw [← ht] at hact ⊢
      have HA := Lib.hid hact; clear hact ht
      cases hoff : t.off
      all_goals
        rw [hoff] at HA
        clear hoff
        go_enter Try.func10, Try.ntmps10
        go_wp2_with fail
        refine (HST.out).mono ?_
        rintro e w' ⟨rfl, rfl⟩
        go_wp2_with fail
        go_quiet (fail)
        go_wp2_with (at_builtin; refine wpList_append_srcs rfl _ _ 22 22 rfl 0 5 i0 (.int .u8 0) 1 1 Try.underlying22 hi hz0 hz1 hz2 rfl (by decide) _ rfl _ _ (HDST.out _) _ rfl _ _ (HSRC.out _) (by unfold maxLen; omega) (by omega) (Nat.zero_le _) ?_; intro a' c' w' hown hgrow _ hblk; have hR := HRE.out _ w' hgrow; have k1 := cell_of_heap hR 1; have kf := frozen_of_heap hR; have HR := Lib.hid hR; clear hR)
        obtain ⟨vs1, vw1, r1, c1, f1⟩ := wrote_mid (W := w'.setCell ⟨R, 1, none⟩ (.slice a' (s.waits.length + b.length) c')) HH.out (grown_drewN hgrow) ((Only.refl R w').setCell) hfit (heap_setCell_here _ HR.out) hblk hown
        refine (HA.out _ vs1 vw1 r1).mono ?_
        rintro e w2 ⟨rfl, hto⟩
        have HT := Lib.hid (RibTo.trans c1 f1 hto)
        clear r1 c1 f1 hto
        go_wp2
        go_ret
        exact ⟨rfl, HT.out⟩
  · have e : s.wrote b = (70, s) := by unfold RibSt.wrote; rw [ho]; rfl
    rw [ho] at hst
    rw [e]
    have HST := Lib.hid hst; clear hst e
    go_enter Try.func10, Try.ntmps10
    go_wp2_with fail
    refine (HST.out).mono ?_
    rintro e w' ⟨rfl, rfl⟩
    go_wp2
    go_ret
    exact ⟨rfl, RibTo.refl HH.out⟩
end Go.Proofs.Ytebeafpoblhlhaa
