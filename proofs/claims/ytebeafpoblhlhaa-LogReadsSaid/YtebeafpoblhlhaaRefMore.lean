/- DERIVED. The walks of the reference of layer 19, continued. -/
import Derived.Test.YtebeafpoblhlhaaRefRib
namespace Go.Proofs.Ytebeafpoblhlhaa
open Go.RowKit
set_option linter.unusedVariables false

def RefSt.wrote (s : RefSt) (b : List UInt8) : Int × RefSt :=
  if s.power then (if 1048576 < s.all.length + b.length then (71, s) else (if s.goes then 70 else 0, ({ s with all := s.all ++ b } : RefSt).acted)) else (70, s)
set_option maxHeartbeats 2000000 in
theorem refwrite_any (w : World) (m : Nat) (va : Value) (s : RefSt) (h : RefAt w m va s) (ha : s.acts < 4611686018427387904) (ab : Option Addr) (cb : Nat) (b : List UInt8) (hb : Rd w (.slice ab b.length cb) (bytesV b)) (hbl : b.length ≤ 140737488355328) :
    Calls Try.prog 20 #[.pointer (some ⟨m, 0, none⟩), .slice ab b.length cb] w fun e w' => e = .returned (.int .i64 (s.wrote b).1) ∧ RefTo w m va (s.wrote b).2 w' := by
  have h0 : w.cell? ⟨m, 0, none⟩ = some va := by rw [cell_of_heap h.cells]; rfl
  have hlen := h.len
  obtain ⟨i0, hi, hz0, hz1, hz2⟩ := info_parts info5
  obtain ⟨av, cv, rfl⟩ := owns_form h.all
  have hal : (w.alloc (.cells #[] 5)).cell? ⟨m, 0, none⟩ = some (.slice av s.all.length cv) := by rw [← h0]; exact ((Below.refl _ w).alloc (Nat.le_refl _) (.cells #[] 5)).cell h.lt
  cases hp : s.power
  · have e : s.wrote b = (70, s) := by unfold RefSt.wrote; rw [if_neg (by simp [hp])]
    rw [e]
    have h2 : w.cell? ⟨m, 2, none⟩ = some (.bool false) := by rw [cell_of_heap h.cells, hp]; rfl
    have HH := Lib.hid h; clear h e
    go_enter Try.func20, Try.ntmps20
    go_wp2
    go_ret
    exact ⟨rfl, RefTo.refl HH.out⟩
  · have h2 : w.cell? ⟨m, 2, none⟩ = some (.bool true) := by rw [cell_of_heap h.cells, hp]; rfl
    by_cases hfull : 1048576 < s.all.length + b.length
    · have e : s.wrote b = (71, s) := by unfold RefSt.wrote; rw [if_pos hp, if_pos hfull]
      rw [e]
      have HH := Lib.hid h; clear h e
      go_enter Try.func20, Try.ntmps20
      go_wp2
      go_ret
      exact ⟨rfl, RefTo.refl HH.out⟩
    · have e : s.wrote b = (if s.goes then 70 else 0, ({ s with all := s.all ++ b } : RefSt).acted) := by unfold RefSt.wrote; rw [if_pos hp, if_neg hfull]
      rw [e]
      have hact : ∀ (W : World) va1, RefAt W m va1 { s with all := s.all ++ b } → Calls Try.prog 34 #[.pointer (some ⟨m, 0, none⟩)] W fun e w' => e = .returned (.bool s.goes) ∧ RefTo W m va1 ({ s with all := s.all ++ b } : RefSt).acted w' := fun W va1 r => refact_any W m va1 _ r ha
      have hfin : ∀ (w2 w3 : World) (M c2 : Nat) (a' : Option Addr) (c' : Nat), w2.ownsRow w.heap.size 5 1 (.slice (some ⟨M, 0, none⟩) s.all.length c2) s.all.length (bytesV s.all) → w.heap.size ≤ M → Below w.heap.size w w2 → w3.ownsRow w.heap.size 5 1 (.slice a' (s.all.length + b.length) c') (s.all.length + b.length) (bytesV s.all ++ bytesV b) → w2.grownBy w3 (some M) →
          RefTo w m (.slice av s.all.length cv) { s with all := s.all ++ b } (w3.setCell ⟨m, 0, none⟩ (.slice a' (s.all.length + b.length) c')) ∧ w3.cell? ⟨m, 0, none⟩ = some (.slice av s.all.length cv) ∧ w3.frozen? ⟨m, 0, none⟩ = false := by
        intro w2 w3 M c2 a' c' hown hM hb2 hown3 hgrow
        have hb3 : Below w.heap.size w w3 := hb2.grown hgrow hb2.size (fun k e => by obtain rfl := Option.some.inj e; exact hM)
        have hcells := (hb3.block m h.lt).trans h.cells
        rw [← bytesV_append] at hown3
        exact ⟨RefTo.fresh h (Ch.of_below hb3 _) (by show (s.all ++ b).length = _; rw [List.length_append]) hown3 (Only.refl m _).setCell (heap_setCell_here _ hcells) (by omega) (by show s.safe ≤ _; have := h.safe; omega) h.inn0 h.inn1 h.acts0, by rw [cell_of_heap hcells]; rfl, frozen_of_heap hcells 0⟩
      have HFIN := Lib.hid hfin; have HA := Lib.hid hact; have HB := Lib.hid hb; have HR := Lib.hid (Rd.of_owns h.all); have HH := Lib.hid h
      clear h hfin hact e hb
      obtain ⟨g, hg⟩ : ∃ g, g = s.goes := ⟨_, rfl⟩
      rw [← hg] at HA ⊢
      clear hg
      obtain ⟨t, ht⟩ : ∃ t, t = ({ s with all := s.all ++ b } : RefSt).acted := ⟨_, rfl⟩
      rw [← ht] at HA ⊢
      clear ht
      cases g
      all_goals
        go_enter Try.func20, Try.ntmps20
        go_wp2_with (first | (at_builtin; refine wpList_copy_bytes0 rfl (.tmp 20) (.tmp 24) rfl w av cv s.all rfl rfl HR.out (by omega) ?_; intro M c2 w2 hown hM1 hM2 hb2; have HO2 := Lib.hid hown; have HB2 := Lib.hid hb2; have hs2 := hb2.size; have HBB := Lib.hid (HB.out.below hb2); clear hown hb2) | (at_builtin; refine wpList_append_srcs rfl (.tmp 25) (.tmp 26) 22 22 rfl w.heap.size 5 i0 (.int .u8 0) 1 1 Try.underlying22 hi hz0 hz1 hz2 rfl (by decide) _ rfl _ _ HO2.out _ rfl _ _ (by have := HBB.out.src (P := Try.prog) Try.underlying22 (bytesV_one _); rw [bytesV_length] at this; exact this) (by unfold maxLen; omega) (by omega) hs2 ?_; intro a' c' w3 hown3 hgrow3 _ _; obtain ⟨hto, k0, kf⟩ := HFIN.out _ _ _ _ _ _ HO2.out hM1 HB2.out hown3 hgrow3; have HTO := Lib.hid hto; clear hto hown3 hgrow3) | fail)
        obtain ⟨va1, r1, c1, f1⟩ := HTO.out
        refine (HA.out _ va1 r1).mono ?_
        rintro e w4 ⟨rfl, hto⟩
        have HT := Lib.hid (RefTo.trans c1 f1 hto)
        clear r1 c1 f1 hto
        go_wp2
        go_ret
        exact ⟨rfl, HT.out⟩

def RefSt.flushed (s : RefSt) : Int × RefSt :=
  if s.power then (if s.goes then (70, s.acted) else (0, { s.acted with safe := s.acted.all.length })) else (70, s)
set_option maxHeartbeats 1000000 in
theorem refflush_any (w : World) (m : Nat) (va : Value) (s : RefSt) (h : RefAt w m va s) (ha : s.acts < 4611686018427387904) :
    Calls Try.prog 21 #[.pointer (some ⟨m, 0, none⟩)] w fun e w' => e = .returned (.int .i64 s.flushed.1) ∧ RefTo w m va s.flushed.2 w' := by
  have hact := refact_any w m va s h ha
  cases hp : s.power
  · have e : s.flushed = (70, s) := by unfold RefSt.flushed; rw [if_neg (by simp [hp])]
    rw [e]
    have h2 : w.cell? ⟨m, 2, none⟩ = some (.bool false) := by rw [cell_of_heap h.cells, hp]; rfl
    have HH := Lib.hid h; clear h e hact
    go_enter Try.func21, Try.ntmps21
    go_wp2
    go_ret
    exact ⟨rfl, RefTo.refl HH.out⟩
  · have e : s.flushed = (if s.goes then (70, s.acted) else (0, { s.acted with safe := s.acted.all.length })) := by unfold RefSt.flushed; rw [if_pos hp]
    rw [e]
    have h2 : w.cell? ⟨m, 2, none⟩ = some (.bool true) := by rw [cell_of_heap h.cells, hp]; rfl
    obtain ⟨t, ht⟩ : ∃ t, t = s.acted := ⟨_, rfl⟩
    rw [← ht] at hact ⊢
    cases hg : s.goes
    · rw [hg] at hact
      have HA := Lib.hid hact; clear hact h e ht
      go_enter Try.func21, Try.ntmps21
      go_wp2_with fail
      refine (HA.out).mono ?_
      rintro e w1 ⟨rfl, va1, r1, c1, f1⟩
      have k0 : w1.cell? ⟨m, 0, none⟩ = some va1 := by rw [cell_of_heap r1.cells]; rfl
      have k1 : w1.cell? ⟨m, 1, none⟩ = some (.int .i64 t.safe) := by rw [cell_of_heap r1.cells]; rfl
      have kf := frozen_of_heap r1.cells
      obtain ⟨av, cv, rfl⟩ := owns_form r1.all
      have HR := Lib.hid r1; have HC := Lib.hid c1; have HF := Lib.hid f1
      clear r1 c1 f1
      go_wp2
      go_ret
      exact ⟨rfl, RefTo.trans HC.out HF.out (RefTo.plain HR.out (Only.refl m _).setCell (heap_setCell_here _ HR.out.cells) rfl (Nat.le_refl _) HR.out.inn0 HR.out.inn1 HR.out.acts0)⟩
    · rw [hg] at hact
      have HA := Lib.hid hact; clear hact h e ht
      go_enter Try.func21, Try.ntmps21
      go_wp2_with fail
      refine (HA.out).mono ?_
      rintro e w1 ⟨rfl, hto⟩
      have HT := Lib.hid hto; clear hto
      go_wp2
      go_ret
      exact ⟨rfl, HT.out⟩

def RefSt.cutted (s : RefSt) (n : Int) : Int × RefSt :=
  if s.power then (if n < 0 ∨ (s.all.length : Int) < n then (1, s) else if s.goes then (70, s.acted) else (0, { s.acted with all := s.acted.all.take n.toNat, safe := n.toNat })) else (70, s)
theorem refacted_all (s : RefSt) (h : s.goes = false) (hi : 0 ≤ s.inn) : s.acted.all = s.all := by
  unfold RefSt.goes at h
  simp at h
  unfold RefSt.acted
  split
  · rfl
  · split
    · rfl
    · omega
set_option maxHeartbeats 2000000 in
theorem refcut_any (w : World) (m : Nat) (va : Value) (s : RefSt) (h : RefAt w m va s) (ha : s.acts < 4611686018427387904) (n : Int) :
    Calls Try.prog 22 #[.pointer (some ⟨m, 0, none⟩), .int .i64 n] w fun e w' => e = .returned (.int .i64 (s.cutted n).1) ∧ RefTo w m va (s.cutted n).2 w' := by
  have hact := refact_any w m va s h ha
  have hlen := h.len
  cases hp : s.power
  · have e : s.cutted n = (70, s) := by unfold RefSt.cutted; rw [if_neg (by simp [hp])]
    rw [e]
    have h2 : w.cell? ⟨m, 2, none⟩ = some (.bool false) := by rw [cell_of_heap h.cells, hp]; rfl
    have HH := Lib.hid h; clear h e hact
    go_enter Try.func22, Try.ntmps22
    go_wp2
    go_ret
    exact ⟨rfl, RefTo.refl HH.out⟩
  · have h2 : w.cell? ⟨m, 2, none⟩ = some (.bool true) := by rw [cell_of_heap h.cells, hp]; rfl
    have h0 : w.cell? ⟨m, 0, none⟩ = some va := by rw [cell_of_heap h.cells]; rfl
    obtain ⟨av, cv, rfl⟩ := owns_form h.all
    by_cases hneg : n < 0
    · have e : s.cutted n = (1, s) := by unfold RefSt.cutted; rw [if_pos hp, if_pos (.inl hneg)]
      rw [e]
      have HH := Lib.hid h; clear h e hact
      go_enter Try.func22, Try.ntmps22
      go_wp2
      go_ret
      exact ⟨rfl, RefTo.refl HH.out⟩
    · obtain ⟨k, rfl⟩ : ∃ k : Nat, n = k := ⟨n.toNat, by omega⟩
      by_cases hbig : s.all.length < k
      · have e : s.cutted k = (1, s) := by unfold RefSt.cutted; rw [if_pos hp, if_pos (.inr (by omega))]
        rw [e]
        have HH := Lib.hid h; clear h e hact
        go_enter Try.func22, Try.ntmps22
        go_wp2
        go_ret
        exact ⟨rfl, RefTo.refl HH.out⟩
      · have e : s.cutted k = (if s.goes then (70, s.acted) else (0, { s.acted with all := s.acted.all.take k, safe := k })) := by
          unfold RefSt.cutted; rw [if_pos hp, if_neg (by omega)]; rfl
        rw [e]
        have hall := refacted_all s
        obtain ⟨t, ht⟩ : ∃ t, t = s.acted := ⟨_, rfl⟩
        rw [← ht] at hact hall ⊢
        cases hg : s.goes
        · rw [hg] at hact
          have hkl : k ≤ t.all.length := by rw [hall hg h.inn0]; omega
          have HA := Lib.hid hact; clear hact h e ht hall
          go_enter Try.func22, Try.ntmps22
          go_wp2_with fail
          refine (HA.out).mono ?_
          rintro e w1 ⟨rfl, va1, r1, c1, f1⟩
          have k0 : w1.cell? ⟨m, 0, none⟩ = some va1 := by rw [cell_of_heap r1.cells]; rfl
          obtain ⟨av1, cv1, rfl⟩ := owns_form r1.all
          have hal : (w1.alloc (.cells #[] 5)).cell? ⟨m, 0, none⟩ = some (.slice av1 t.all.length cv1) := by rw [← k0]; exact ((Below.refl _ w1).alloc (Nat.le_refl _) (.cells #[] 5)).cell r1.lt
          have hcap := (owns_cap r1.all).1
          have hkc : k ≤ cv1 := by omega
          have HRD := Lib.hid ((Rd.of_owns r1.all).takeN k hkl)
          have HTL : Hid ((t.all.take k).length = k) := by show (t.all.take k).length = k; rw [List.length_take]; omega
          have hfin : ∀ (w2 : World) (M c : Nat), w2.ownsRow w1.heap.size 5 1 (.slice (some ⟨M, 0, none⟩) (t.all.take k).length c) (t.all.take k).length (bytesV (t.all.take k)) → Below w1.heap.size w1 w2 →
              RefTo w1 m (.slice av1 t.all.length cv1) { t with all := t.all.take k, safe := k } ((w2.setCell ⟨m, 0, none⟩ (.slice (some ⟨M, 0, none⟩) k c)).setCell ⟨m, 1, none⟩ (.int .i64 k)) ∧ w2.cell? ⟨m, 0, none⟩ = some (.slice av1 t.all.length cv1) ∧ w2.cell? ⟨m, 1, none⟩ = some (.int .i64 t.safe) ∧ (∀ i, w2.frozen? ⟨m, i, none⟩ = false) := by
            intro w2 M c hown hb2
            have hcells := (hb2.block m r1.lt).trans r1.cells
            rw [HTL.out] at hown
            exact ⟨RefTo.fresh r1 (Ch.of_below hb2 _) HTL.out hown (Only.refl m _).setCell.setCell (heap_setCell_here _ (heap_setCell_here _ hcells)) (by omega) (Nat.le_refl _) r1.inn0 r1.inn1 r1.acts0, by rw [cell_of_heap hcells]; rfl, by rw [cell_of_heap hcells]; rfl, frozen_of_heap hcells⟩
          have HFIN := Lib.hid hfin
          have HR := Lib.hid r1; have HC := Lib.hid c1; have HF := Lib.hid f1
          clear r1 c1 f1 hfin hkl hcap
          go_wp2_with (first | (at_builtin; refine wpList_copy_bytes0 rfl (.tmp 24) (.tmp 30) rfl w1 av1 cv1 (t.all.take k) rfl (by rw [HTL.out]; rfl) HRD.out (by rw [HTL.out]; omega) ?_; intro M c2 w2 hown hM1 hM2 hb2; obtain ⟨hto, q0, q1, qf⟩ := HFIN.out w2 M c2 hown hb2; have HTO := Lib.hid hto; clear hto hown hb2; rw [HTL.out]) | fail)
          go_ret
          exact ⟨rfl, RefTo.trans HC.out HF.out HTO.out⟩
        · rw [hg] at hact
          have HA := Lib.hid hact; clear hact h e ht hall
          go_enter Try.func22, Try.ntmps22
          go_wp2_with fail
          refine (HA.out).mono ?_
          rintro e w1 ⟨rfl, hto⟩
          have HT := Lib.hid hto; clear hto
          go_wp2
          go_ret
          exact ⟨rfl, HT.out⟩
set_option maxHeartbeats 400000 in
theorem refarm_any (w : World) (m : Nat) (va : Value) (s : RefSt) (h : RefAt w m va s) (n k : Int) (hn : n < 9223372036854775808) :
    Calls Try.prog 25 #[.pointer (some ⟨m, 0, none⟩), .int .i64 n, .int .i64 k] w fun e w' => e = .returned (.tuple #[]) ∧ RefTo w m va { s with inn := max n 0, keep := k } w' := by
  have h4 : w.cell? ⟨m, 4, none⟩ = some (.int .i64 s.inn) := by rw [cell_of_heap h.cells]; rfl
  have h5 : w.cell? ⟨m, 5, none⟩ = some (.int .i64 s.keep) := by rw [cell_of_heap h.cells]; rfl
  have hf := frozen_of_heap h.cells
  have HH := Lib.hid h; clear h
  by_cases h0 : n < 0
  · go_enter Try.func25, Try.ntmps25
    go_wp2
    go_end0
    rw [show max n 0 = 0 from by omega]
    exact ⟨rfl, RefTo.plain HH.out (Only.refl m _).setCell.setCell.setCell (heap_setCell_here _ (heap_setCell_here _ (heap_setCell_here _ HH.out.cells))) rfl HH.out.safe (by simp) (by simp) HH.out.acts0⟩
  · go_enter Try.func25, Try.ntmps25
    go_wp2
    go_end0
    rw [show max n 0 = n from by omega]
    exact ⟨rfl, RefTo.plain HH.out (Only.refl m _).setCell.setCell (heap_setCell_here _ (heap_setCell_here _ HH.out.cells)) rfl HH.out.safe (by show 0 ≤ n; omega) hn HH.out.acts0⟩
end Go.Proofs.Ytebeafpoblhlhaa
