/- DERIVED. The writer's put. -/
import Derived.Test.YtjcimajkjnjdpabGreatDoorMSexp
import Derived.Test.YtjcimajkjnjdpabGreatDoorMemTwo
namespace Go.Proofs.YtjcimajkjnjdpabGreatDoor
open Go.RowKit
set_option linter.unusedVariables false
set_option maxRecDepth 100000

theorem str_src (w : World) (r : List UInt8) : Src Tryz.prog 1 9 (.string ⟨r.toArray⟩) r.length (bytesV r) w := by
  have h := Src.ofString (P := Tryz.prog) (w := w) Tryz.underlying9 ⟨r.toArray⟩
  rw [str_size] at h
  have e : byteCells ⟨r.toArray⟩ = bytesV r := by simp [byteCells, bytesV]
  rw [e] at h; exact h
theorem byteInfo : (Tryz.prog.info? 5).map (fun i => (i.zero, i.size, i.bytes)) = some (some (.int .u8 0), 1, 1) := by kernel_rfl
/-- A writer at block W: its bytes' row v, its fault. -/
def WrAt (W : Nat) (v : Value) (b : List UInt8) (f : Int) (w : World) : Prop :=
  w.heap[W]? = some (.cells #[v, .int .i64 f] 82 (0, 0)) ∧ w.ownsRow 0 5 1 v b.length (bytesV b) ∧ v.ownBlock ≠ some W
def wFoot (W : Nat) (v : Value) : List Nat := W :: v.ownBlock.toList
/-- What writing leaves: the writer again, in its own blocks or new ones; nothing else has changed. -/
def WrTo (w : World) (W : Nat) (v : Value) (f : Int) (P : List UInt8 → Prop) (w' : World) : Prop :=
  ∃ v' b', P b' ∧ WrAt W v' b' f w' ∧ Ch (wFoot W v) w w' ∧ ∀ g ∈ wFoot W v', g ∈ wFoot W v ∨ w.heap.size ≤ g
theorem wFoot_lt {W : Nat} {v : Value} {b : List UInt8} {f : Int} {w : World} (h : WrAt W v b f w) : ∀ g ∈ wFoot W v, g < w.heap.size := by
  intro g hg
  rcases List.mem_cons.1 hg with rfl | hg
  · exact lt_of_heap h.1
  · exact owns_lt h.2.1 g (by simpa using hg)
set_option maxHeartbeats 1000000 in
theorem wput_any (w : World) (W : Nat) (v : Value) (b s : List UInt8) (h : WrAt W v b 0 w) (hb : b.length ≤ 65536) (hs : s.length ≤ 100000000) :
    Calls Tryz.prog 70 #[.pointer (some ⟨W, 0, none⟩), .string ⟨s.toArray⟩] w (fun e w' => e = .returned (.tuple #[]) ∧
      WrTo w W v (if 65536 < (b ++ s).length then 3 else 0) (fun b' => b' = b ++ s) w') := by
  obtain ⟨hw, hown, hne⟩ := h
  obtain ⟨i5, hi5, hz0, hz1, hz2⟩ := info_parts byteInfo
  obtain ⟨av, cv, rfl⟩ := owns_form hown
  have k0 := cell_of_heap hw 0
  have k1 := cell_of_heap hw 1
  have kf := frozen_of_heap hw
  have hWl := lt_of_heap hw
  have hstep : ∀ a' c' w', w'.ownsRow 0 5 1 (.slice a' (b.length + s.length) c') (b.length + s.length) (bytesV b ++ bytesV s) → w.grownBy w' (Value.slice av b.length cv).ownBlock → ((Value.slice a' (b.length + s.length) c').ownBlock = (Value.slice av b.length cv).ownBlock ∨ (Value.slice a' (b.length + s.length) c').ownBlock = some w.heap.size) →
      w'.heap[W]? = some (.cells #[.slice av b.length cv, .int .i64 0] 82 (0, 0)) ∧
      WrTo w W (.slice av b.length cv) 0 (fun b' => b' = b ++ s) (w'.setCell ⟨W, 0, none⟩ (.slice a' (b.length + s.length) c')) ∧
      ∀ f : Int, WrTo w W (.slice av b.length cv) f (fun b' => b' = b ++ s) ((w'.setCell ⟨W, 0, none⟩ (.slice a' (b.length + s.length) c')).setCell ⟨W, 1, none⟩ (.int .i64 f)) := by
    intro a' c' w' ho hg hbk
    have hc1 : Ch (Value.slice av b.length cv).ownBlock.toList w w' := (Ch.refl _ w).grown hg (fun k hk => .inl (by rw [hk]; simp))
    have hWw : w'.heap[W]? = w.heap[W]? := hc1.block W hWl (by intro hm; exact hne (by simpa using hm))
    have hc2 : Ch (wFoot W (.slice av b.length cv)) w w' := hc1.mono (fun x hx => .inl (List.mem_cons_of_mem _ hx))
    have hn' : (Value.slice a' (b.length + s.length) c').ownBlock ≠ some W := by
      rcases hbk with e | e
      · rw [e]; exact hne
      · rw [e]; intro h; have := Option.some.inj h; omega
    have hft : ∀ g ∈ wFoot W (.slice a' (b.length + s.length) c'), g ∈ wFoot W (.slice av b.length cv) ∨ w.heap.size ≤ g := by
      intro g hg'
      rcases List.mem_cons.1 hg' with rfl | hg'
      · exact .inl (List.mem_cons_self ..)
      · rcases hbk with e | e
        · rw [e] at hg'; exact .inl (List.mem_cons_of_mem _ hg')
        · rw [e] at hg'
          have : g = w.heap.size := by simpa using hg'
          exact .inr (by omega)
    have hW' : w'.heap[W]? = some (.cells #[.slice av b.length cv, .int .i64 0] 82 (0, 0)) := hWw.trans hw
    have hlen : (b ++ s).length = b.length + s.length := List.length_append
    rw [← bytesV_append, ← hlen] at ho
    rw [← hlen] at hft hn' ⊢
    have hh1 := heap_setCell_here (i := 0) (Value.slice a' (b ++ s).length c') hW'
    have ho1 := ownsRow_setCell_other ho (a := ⟨W, 0, none⟩) (fun e => hn' e) (.slice a' (b ++ s).length c')
    have hch1 := hc2.setCell (p := ⟨W, 0, none⟩) (.inl (List.mem_cons_self ..)) (.slice a' (b ++ s).length c')
    refine ⟨hW', ⟨_, _, rfl, ⟨hh1, ho1, hn'⟩, hch1, hft⟩, fun f => ⟨_, _, rfl, ⟨?_, ?_, hn'⟩, hch1.setCell (p := ⟨W, 1, none⟩) (.inl (List.mem_cons_self ..)) _, hft⟩⟩
    · exact heap_setCell_here (i := 1) (.int .i64 f) hh1
    · exact ownsRow_setCell_other ho1 (a := ⟨W, 1, none⟩) (fun e => hn' e) _
  have HS := Lib.hid hstep
  have HO := Lib.hid hown
  clear hstep hown
  have hlen : (b ++ s).length = b.length + s.length := List.length_append
  by_cases hl : 65536 < b.length + s.length
  · rw [if_pos (by omega)]
    clear hlen
    go_enter Tryz.func70, Tryz.ntmps70
    go_wp2_with (first | (at_builtin; refine wpList_append_srcs rfl (.tmp 8) (.tmp 9) 80 9 rfl 0 5 i5 (.int .u8 0) 1 1 Tryz.underlying80 hi5 hz0 hz1 hz2 rfl (by decide) _ rfl _ _ HO.out _ rfl _ _ (str_src w s) (by unfold maxLen; omega) (by omega) (Nat.zero_le _) ?_; intro a' c' w' hown hgrow _ hblk; obtain ⟨h1, _, h2⟩ := HS.out a' c' w' hown hgrow hblk; have q0 := cell_of_heap h1 0; have q1 := cell_of_heap h1 1; have qf := frozen_of_heap h1; have H1 := Lib.hid h1; have H2 := Lib.hid h2; clear h1 h2 hown hgrow hblk) | fail)
    go_end0
    exact ⟨rfl, H2.out 3⟩
  · rw [if_neg (by omega)]
    clear hlen
    go_enter Tryz.func70, Tryz.ntmps70
    go_wp2_with (first | (at_builtin; refine wpList_append_srcs rfl (.tmp 8) (.tmp 9) 80 9 rfl 0 5 i5 (.int .u8 0) 1 1 Tryz.underlying80 hi5 hz0 hz1 hz2 rfl (by decide) _ rfl _ _ HO.out _ rfl _ _ (str_src w s) (by unfold maxLen; omega) (by omega) (Nat.zero_le _) ?_; intro a' c' w' hown hgrow _ hblk; obtain ⟨h1, h2, _⟩ := HS.out a' c' w' hown hgrow hblk; have q0 := cell_of_heap h1 0; have q1 := cell_of_heap h1 1; have qf := frozen_of_heap h1; have H1 := Lib.hid h1; have H2 := Lib.hid h2; clear h1 h2 hown hgrow hblk) | fail)
    go_end0
    exact ⟨rfl, H2.out⟩
end Go.Proofs.YtjcimajkjnjdpabGreatDoor
