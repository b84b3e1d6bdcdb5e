/- DERIVED. spoil: all lists of a node are written into. -/
import Derived.Test.YtnekmmknjhflgaaDoorSexpCopyW
namespace Go.Proofs.YtnekmmknjhflgaaDoor
open Go.RowKit
set_option linter.unusedVariables false

/-- Nothing has changed but blocks of the foot, and new ones. -/
structure ChG (G : Foot) (w w' : World) : Prop where
  os : w'.os = w.os
  tape : w'.tape = w.tape
  output : w'.output = w.output
  size : w.heap.size ≤ w'.heap.size
  block : ∀ k, k < w.heap.size → (∀ l n, ¬ G l k n) → w'.heap[k]? = w.heap[k]?
theorem ChG.refl (G : Foot) (w : World) : ChG G w w := ⟨rfl, rfl, rfl, Nat.le_refl _, fun _ _ _ => rfl⟩
theorem ChG.trans {G : Foot} {a b c : World} (h : ChG G a b) (k : ChG G b c) : ChG G a c :=
  ⟨k.os.trans h.os, k.tape.trans h.tape, k.output.trans h.output, Nat.le_trans h.size k.size, fun i hi hn => (k.block i (Nat.lt_of_lt_of_le hi h.size) hn).trans (h.block i hi hn)⟩
theorem ChG.of_below {G : Foot} {a w : World} (h : Below a.heap.size a w) : ChG G a w := ⟨h.os, h.tape, h.output, h.size, fun k hk _ => h.block k hk⟩
theorem ChG.setCell {G : Foot} {a w : World} (h : ChG G a w) {b i l n : Nat} (hb : G l b n) (u : Value) : ChG G a (w.setCell ⟨b, i, none⟩ u) :=
  ⟨h.os, h.tape, h.output, by have := h.size; simpa [World.setCell] using this, fun k hk hn => (Below.heap_setCell _ _ _ _ (fun e => hn l n (by rw [show k = b from e]; exact hb))).trans (h.block k hk hn)⟩
theorem ChG.below {G : Foot} {B : Nat} {a w : World} (h : ChG G a w) (hG : ∀ l b n, G l b n → B ≤ b) (hB : B ≤ a.heap.size) : Below B a w :=
  ⟨h.os, h.tape, h.output, h.size, fun k hk => h.block k (by omega) (fun l n hg => by have := hG l k n hg; omega)⟩
/-- A node of a row is blotted out. -/
theorem Inv.blot {G : Foot} {w : World} (h : Inv G w) {l0 b n0 i : Nat} (hb : G l0 b n0) (hi : i < n0) : Inv G (((w.setCell ⟨b, i * 3, none⟩ (.bool false)).setCell ⟨b, i * 3 + 1, none⟩ (.string ⟨#[]⟩)).setCell ⟨b, i * 3 + 2, none⟩ (.slice none 0 0)) := by
  intro l b' n hg
  by_cases hbb : b = b'
  · subst hbb
    obtain ⟨cs, t, h1, h2, h3⟩ := h l b n hg
    have e1 := heap_setCell_here (i := i * 3) (Value.bool false) h1
    have e2 := heap_setCell_here (i := i * 3 + 1) (Value.string ⟨#[]⟩) e1
    have e3 := heap_setCell_here (i := i * 3 + 2) (Value.slice none 0 0) e2
    refine ⟨_, t, e3, by simpa using h2, fun j hj => ?_⟩
    obtain ⟨lf, s, v2, k1, k2, k3, k4⟩ := h3 j hj
    by_cases hij : j = i
    · subst hij
      refine ⟨false, ⟨#[]⟩, .slice none 0 0, ?_, ?_, ?_, .inl rfl⟩
      · rw [Array.getElem?_setIfInBounds_ne (by omega), Array.getElem?_setIfInBounds_ne (by omega), Array.getElem?_setIfInBounds_self_of_lt (by omega)]
      · rw [Array.getElem?_setIfInBounds_ne (by omega), Array.getElem?_setIfInBounds_self_of_lt (by simp; omega)]
      · rw [Array.getElem?_setIfInBounds_self_of_lt (by simp; omega)]
    · refine ⟨lf, s, v2, ?_, ?_, ?_, k4⟩
      · rw [Array.getElem?_setIfInBounds_ne (by omega), Array.getElem?_setIfInBounds_ne (by omega), Array.getElem?_setIfInBounds_ne (by omega)]; exact k1
      · rw [Array.getElem?_setIfInBounds_ne (by omega), Array.getElem?_setIfInBounds_ne (by omega), Array.getElem?_setIfInBounds_ne (by omega)]; exact k2
      · rw [Array.getElem?_setIfInBounds_ne (by omega), Array.getElem?_setIfInBounds_ne (by omega), Array.getElem?_setIfInBounds_ne (by omega)]; exact k3
  · rw [Below.heap_setCell _ _ _ _ (fun e => hbb e.symm), Below.heap_setCell _ _ _ _ (fun e => hbb e.symm), Below.heap_setCell _ _ _ _ (fun e => hbb e.symm)]
    exact h l b' n hg
set_option maxRecDepth 100000 in
set_option maxHeartbeats 4000000 in
theorem spoil_any : ∀ (m l : Nat), l + m = 32 → ∀ (G : Foot) (w : World) (lf : Bool) (s : ByteArray) (v2 : Value), Inv G w → (∀ l b n, G l b n → l < 32 ∧ b < w.heap.size) → ListIn G l v2 →
    Calls Tryd.prog 20 #[.agg #[.bool lf, .string s, v2]] w (fun e w' => e = .returned (.tuple #[]) ∧ Inv G w' ∧ ChG G w w') := by
  intro m
  induction m with
  | zero =>
    intro l hl G w lf s v2 hinv hG hin
    have hv : v2 = .slice none 0 0 := by
      rcases hin with h | ⟨b, n, c, _, _, _, h⟩
      · exact h
      · have := (hG _ _ _ h).1; omega
    subst hv
    have hb1 : Below w.heap.size w (w.alloc (.cells #[.bool lf, .string s, .slice none 0 0] 24)) := (Below.refl _ w).alloc (Nat.le_refl _) _
    have HB := Lib.hid hb1; have HI := Lib.hid (hinv.keep (fun l b n hg => hb1.block b (hG l b n hg).2))
    clear hb1 hinv hG hin
    go_enter Tryd.func20, Tryd.ntmps20
    go_wp2_with fail
    go_loopw [6] (fun i wr => i = .int .i64 0 ∧ wr = (w.alloc (.cells #[.bool lf, .string s, .slice none 0 0] 24))) (fun i _ => 0)
    case atStart => exact ⟨rfl, rfl⟩
    case round =>
      obtain ⟨rfl, rfl⟩ := hrel
      go_wp2_with fail
      go_end0
      exact ⟨rfl, HI.out, ChG.of_below HB.out⟩
  | succ m ih =>
    intro l hl G w lf s v2 hinv hG hin
    obtain ⟨a, n, c, rfl, hnc⟩ : ∃ a n c, v2 = .slice a n c ∧ ((n = 0) ∨ ∃ b, a = some ⟨b, 0, none⟩ ∧ n ≤ c ∧ c ≤ maxLen ∧ G l b n) := by
      rcases hin with h | ⟨b, n, c, h1, h2, h3, h4⟩
      · exact ⟨_, _, _, h, .inl rfl⟩
      · exact ⟨_, _, _, h1, .inr ⟨b, rfl, h2, h3, h4⟩⟩
    have hb1 : Below w.heap.size w (w.alloc (.cells #[.bool lf, .string s, .slice a n c] 24)) := (Below.refl _ w).alloc (Nat.le_refl _) _
    have hbx := heap_alloc_new w (.cells #[.bool lf, .string s, .slice a n c] 24)
    obtain ⟨w1, hw1⟩ : ∃ w1, w.alloc (.cells #[.bool lf, .string s, .slice a n c] 24) = w1 := ⟨_, rfl⟩
    rw [hw1] at hb1 hbx
    obtain ⟨bx, hbxe⟩ : ∃ bx, w.heap.size = bx := ⟨_, rfl⟩
    rw [hbxe] at hbx
    have hbl := lt_of_heap hbx
    have hnG : ∀ l n, ¬ G l bx n := fun l n h => by have := (hG l bx n h).2; omega
    have hnl : n ≤ 9223372036854775807 := by
      rcases hnc with h | ⟨b, _, h1, h2, _⟩
      · omega
      · unfold maxLen at h2; omega
    have x2 := cell_of_heap hbx 2
    have HB := Lib.hid hb1; have HI := Lib.hid (hinv.keep (fun l b n hg => hb1.block b (hG l b n hg).2)); have HG := Lib.hid hG; have HNC := Lib.hid hnc; have HBX := Lib.hid hbx; have HNG := Lib.hid hnG; have HBL := Lib.hid hbl; have HIH := Lib.hid ih
    have HL : Hid ((l + 1) + m = 32) := Lib.hid (by omega)
    have hs1 : Hid (bx ≤ w1.heap.size) := Lib.hid (by omega)
    clear hb1 hinv hG hin hnc hbx hnG hbl ih hl
    go_enter Tryd.func20, Tryd.ntmps20
    go_wp2_with fail
    go_loopw [6] (fun i wr => ∃ k : Nat, i = .int .i64 k ∧ k ≤ n ∧ Hid (Inv G wr) ∧ Hid (ChG G w1 wr)) (fun i _ => n - (intOf i).toNat)
    case atStart => exact ⟨0, rfl, Nat.zero_le _, HI, ChG.refl _ _⟩
    case round =>
      obtain ⟨k, rfl, hkn, hinv, hch⟩ := hrel
      have hbxr : wr.heap[bx]? = some (.cells #[.bool lf, .string s, .slice a n c] 24 (0, 0)) := by rw [hch.out.block bx HBL.out HNG.out]; exact HBX.out
      by_cases hlt : k < n
      · obtain ⟨gb, rfl, hcc, hcm, hgg⟩ : ∃ b, a = some ⟨b, 0, none⟩ ∧ n ≤ c ∧ c ≤ maxLen ∧ G l b n := by
          rcases HNC.out with h | h
          · omega
          · exact h
        have y2 := cell_of_heap hbxr 2
        obtain ⟨cs, t, h1, h2, h3⟩ := hinv.out l gb n hgg
        obtain ⟨lk, sk, vk, k1, k2, k3, k4⟩ := h3 k hlt
        obtain ⟨ak, nk, ck, rfl⟩ : ∃ a n c, vk = .slice a n c := by
          rcases k4 with h | ⟨b, n, c, h, _⟩
          · exact ⟨_, _, _, h⟩
          · exact ⟨_, _, _, h⟩
        have d0 : wr.cell? ⟨gb, k * 3, none⟩ = some (.bool lk) := by rw [cell_of_heap h1]; exact k1
        have d1 : wr.cell? ⟨gb, k * 3 + 1, none⟩ = some (.string sk) := by rw [cell_of_heap h1]; exact k2
        have d2 : wr.cell? ⟨gb, k * 3 + 2, none⟩ = some (.slice ak nk ck) := by rw [cell_of_heap h1]; exact k3
        have hcall := HIH.out (l + 1) HL.out G wr lk sk (.slice ak nk ck) hinv.out (fun l b n hg => ⟨(HG.out l b n hg).1, by have := (HG.out l b n hg).2; have := HB.out.size; have := hch.out.size; omega⟩) k4
        have HCALL := Lib.hid hcall; have HGG := Lib.hid hgg; have HBXR := Lib.hid hbxr
        clear hcall hgg hbxr h1 h2 h3 k1 k2 k3 k4 x2
        go_wp2_with fail
        refine HCALL.out.mono ?_
        rintro e w2 ⟨rfl, hinv2, hch2⟩
        have hbx2 : w2.heap[bx]? = some (.cells #[.bool lf, .string s, .slice (some ⟨gb, 0, none⟩) n c] 24 (0, 0)) := by rw [hch2.block bx (lt_of_heap HBXR.out) HNG.out]; exact HBXR.out
        obtain ⟨cs, t, h1, h2, h3⟩ := hinv2 l gb n HGG.out
        obtain ⟨lk', sk', vk', k1, k2, k3, k4⟩ := h3 k hlt
        have z2 := cell_of_heap hbx2 2
        have e0 : w2.cell? ⟨gb, k * 3, none⟩ = some (.bool lk') := by rw [cell_of_heap h1]; exact k1
        have e1 : w2.cell? ⟨gb, k * 3 + 1, none⟩ = some (.string sk') := by rw [cell_of_heap h1]; exact k2
        have e2 : w2.cell? ⟨gb, k * 3 + 2, none⟩ = some vk' := by rw [cell_of_heap h1]; exact k3
        have ef := frozen_of_heap h1
        have hnext := hinv2.blot HGG.out hlt
        have hchn := (((hch.out.trans hch2).setCell (i := k * 3) HGG.out (.bool false)).setCell (i := k * 3 + 1) HGG.out (.string ⟨#[]⟩)).setCell (i := k * 3 + 2) HGG.out (.slice none 0 0)
        have HNEXT := Lib.hid hnext; have HCHN := Lib.hid hchn
        clear hnext hchn hinv2 hch2 hbx2 h1 h2 h3 k1 k2 k3 k4 d0 d1 d2 y2
        go_wp2_with fail
        go_roundw
        case rel => exact ⟨k + 1, by go_num, hlt, HNEXT, HCHN⟩
        case measure => simp [intOf]; omega
      · obtain rfl : k = n := by omega
        have hfin : ChG G w wr := (ChG.of_below HB.out).trans hch.out
        have HFIN := Lib.hid hfin
        clear hfin hbxr x2
        go_wp2_with fail
        go_end0
        exact ⟨rfl, hinv.out, HFIN.out⟩
end Go.Proofs.YtnekmmknjhflgaaDoor
