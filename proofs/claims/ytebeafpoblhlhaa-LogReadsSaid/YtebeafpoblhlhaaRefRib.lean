/- DERIVED. The walks of the reference of layer 19. -/
import Derived.Test.YtebeafpoblhlhaaRibMore
import Derived.Test.YtebeafpoblhlhaaMemTwo
namespace Go.Proofs.Ytebeafpoblhlhaa
open Go.RowKit
set_option linter.unusedVariables false

structure RefSt where
  all : List UInt8
  safe : Nat
  power : Bool
  acts : Int
  inn : Int
  keep : Int
def refFoot (m : Nat) (va : Value) : List Nat := m :: va.ownBlock.toList
structure RefAt (w : World) (m : Nat) (va : Value) (s : RefSt) : Prop where
  cells : w.heap[m]? = some (.cells #[va, .int .i64 s.safe, .bool s.power, .int .i64 s.acts, .int .i64 s.inn, .int .i64 s.keep] 45 (0, 0))
  all : w.ownsRow 0 5 1 va s.all.length (bytesV s.all)
  apart : (refFoot m va).Nodup
  len : s.all.length ≤ 1048576
  safe : s.safe ≤ s.all.length
  inn0 : 0 ≤ s.inn
  inn1 : s.inn < 9223372036854775808
  acts0 : 0 ≤ s.acts
theorem RefAt.lt {w : World} {m : Nat} {va : Value} {s : RefSt} (h : RefAt w m va s) : m < w.heap.size := lt_of_heap h.cells
theorem RefAt.ne {w : World} {m : Nat} {va : Value} {s : RefSt} (h : RefAt w m va s) : some m ≠ va.ownBlock := by
  have := h.apart
  intro e
  simp [refFoot, ← e] at this
theorem RefAt.foot_lt {w : World} {m : Nat} {va : Value} {s : RefSt} (h : RefAt w m va s) : ∀ k ∈ refFoot m va, k < w.heap.size := by
  intro k hk
  simp only [refFoot, List.mem_cons, Option.mem_toList] at hk
  rcases hk with rfl | hk
  · exact h.lt
  · exact owns_lt h.all k hk
theorem RefAt.keep {w w' : World} {m : Nat} {va : Value} {s : RefSt} (h : RefAt w m va s) (hk : ∀ k ∈ refFoot m va, w'.heap[k]? = w.heap[k]?) : RefAt w' m va s :=
  ⟨by rw [hk m (by simp [refFoot])]; exact h.cells, ownsRow_keep h.all (fun g hg => hk g (by simp [refFoot, hg])), h.apart, h.len, h.safe, h.inn0, h.inn1, h.acts0⟩
def RefTo (w : World) (m : Nat) (va : Value) (s' : RefSt) (w' : World) : Prop :=
  ∃ va', RefAt w' m va' s' ∧ Ch (refFoot m va) w w' ∧ ∀ k ∈ refFoot m va', k ∈ refFoot m va ∨ w.heap.size ≤ k
theorem RefTo.refl {w : World} {m : Nat} {va : Value} {s : RefSt} (h : RefAt w m va s) : RefTo w m va s w := ⟨va, h, Ch.refl _ _, fun _ h => .inl h⟩
theorem RefTo.plain {w W : World} {m : Nat} {va : Value} {s s' : RefSt} (h : RefAt w m va s) (hO : Only m w W)
    (hcells : W.heap[m]? = some (.cells #[va, .int .i64 s'.safe, .bool s'.power, .int .i64 s'.acts, .int .i64 s'.inn, .int .i64 s'.keep] 45 (0, 0)))
    (e1 : s'.all = s.all) (hs : s'.safe ≤ s.all.length) (hi0 : 0 ≤ s'.inn) (hi1 : s'.inn < 9223372036854775808) (ha : 0 ≤ s'.acts) : RefTo w m va s' W :=
  ⟨va, ⟨hcells, by rw [e1]; exact ownsRow_keep h.all (fun g hg => hO.block g (fun e => h.ne (by rw [← e, hg]))), h.apart, by rw [e1]; exact h.len, by rw [e1]; exact hs, hi0, hi1, ha⟩, hO.ch (Ch.refl _ _) (.inl (by simp [refFoot])), fun _ h => .inl h⟩
theorem RefTo.trans {w w1 w2 : World} {m : Nat} {va va1 : Value} {s2 : RefSt} (hc : Ch (refFoot m va) w w1) (hf : ∀ k ∈ refFoot m va1, k ∈ refFoot m va ∨ w.heap.size ≤ k) (h : RefTo w1 m va1 s2 w2) : RefTo w m va s2 w2 := by
  obtain ⟨va2, h1, h2, h3⟩ := h
  exact ⟨va2, h1, hc.trans h2 hf, fun k hk => (h3 k hk).elim (hf k) (fun h => .inr (Nat.le_trans hc.size h))⟩
/-- A new list of bytes in memory of the call's own, stored into the struct. -/
theorem RefTo.fresh {w w' W : World} {m : Nat} {va : Value} {s s' : RefSt} {a : Option Addr} {c n : Nat} (h : RefAt w m va s) (hb : Ch (refFoot m va) w w') (hn : s'.all.length = n) (hown : w'.ownsRow w.heap.size 5 1 (.slice a n c) n (bytesV s'.all)) (hO : Only m w' W)
    (hcells : W.heap[m]? = some (.cells #[.slice a n c, .int .i64 s'.safe, .bool s'.power, .int .i64 s'.acts, .int .i64 s'.inn, .int .i64 s'.keep] 45 (0, 0)))
    (hlen : n ≤ 1048576) (hs : s'.safe ≤ n) (hi0 : 0 ≤ s'.inn) (hi1 : s'.inn < 9223372036854775808) (ha : 0 ≤ s'.acts) : RefTo w m va s' W := by
  have hm := h.lt
  have hge : ∀ g, (Value.slice a n c).ownBlock = some g → w.heap.size ≤ g := fun g hg => owns_ge hown g hg
  refine ⟨.slice a n c, ⟨hcells, ?_, ?_, by rw [hn]; exact hlen, by rw [hn]; exact hs, hi0, hi1, ha⟩, hO.ch hb (.inl (by simp [refFoot])), ?_⟩
  · rw [hn]
    exact ownsRow_keep (ownsRow_base hown) (fun g hg => hO.block g (by have := hge g hg; omega))
  · unfold refFoot
    cases hg : (Value.slice a n c).ownBlock with
    | none => simp
    | some g => simp; have := hge g hg; omega
  · intro k hk
    simp only [refFoot, List.mem_cons, Option.mem_toList] at hk ⊢
    rcases hk with rfl | hk
    · exact .inl (.inl rfl)
    · exact .inr (hge k hk)
theorem Ch.after {S : List Nat} {w W1 w2 : World} {m : Nat} (h : Ch S W1 w2) (hO : Only m w W1) (hm : m ∈ S) : Ch S w w2 :=
  (hO.ch (Ch.refl S w) (.inl hm)).trans h (fun x hx => .inl hx)
def RefSt.kept (s : RefSt) (keep : Int) : Nat := (min (max keep 0) ((s.all.length - s.safe : Nat) : Int)).toNat
def RefSt.offed (s : RefSt) (keep : Int) : RefSt :=
  if s.power then { s with all := s.all.take (s.safe + s.kept keep), safe := s.safe + s.kept keep, power := false, inn := 0 } else s
theorem Rd.takeN {w : World} {a : Option Addr} {l c : Nat} {b : List UInt8} (h : Rd w (.slice a l c) (bytesV b)) (n : Nat) (hn : n ≤ b.length) : Rd w (.slice a (b.take n).length c) (bytesV (b.take n)) := by
  have := h.take n hn
  rw [List.length_take, Nat.min_eq_left hn]; exact this
theorem refoffed (s : RefSt) (keep : Int) (S : Nat) (ho : s.power = true) (hS : S = s.safe + s.kept keep) : s.offed keep = { all := s.all.take S, safe := S, power := false, acts := s.acts, inn := 0, keep := s.keep } := by
  unfold RefSt.offed
  rw [if_pos ho, hS]
theorem reffacts {w W1 : World} {m cv S : Nat} {av : Option Addr} {s : RefSt} {p : Bool} (h : RefAt w m (.slice av s.all.length cv) s) (hO : Only m w W1)
    (hc : W1.heap[m]? = some (.cells #[.slice av s.all.length cv, .int .i64 (S : Int), .bool p, .int .i64 s.acts, .int .i64 s.inn, .int .i64 s.keep] 45 (0, 0))) (T : Nat) (hT : T ≤ s.all.length) :
    W1.cell? ⟨m, 0, none⟩ = some (.slice av s.all.length cv) ∧ W1.cell? ⟨m, 1, none⟩ = some (.int .i64 (S : Int)) ∧ (∀ i, W1.frozen? ⟨m, i, none⟩ = false) ∧ Rd W1 (.slice av (s.all.take T).length cv) (bytesV (s.all.take T)) ∧
      (W1.alloc (.cells #[] 5)).cell? ⟨m, 0, none⟩ = some (.slice av s.all.length cv) ∧ (W1.alloc (.cells #[] 5)).cell? ⟨m, 1, none⟩ = some (.int .i64 (S : Int)) ∧
      ∀ w2, Below W1.heap.size W1 w2 → w2.cell? ⟨m, 0, none⟩ = some (.slice av s.all.length cv) ∧ w2.cell? ⟨m, 2, none⟩ = some (.bool p) ∧ w2.cell? ⟨m, 4, none⟩ = some (.int .i64 s.inn) ∧ (∀ i, w2.frozen? ⟨m, i, none⟩ = false) ∧
        w2.heap[m]? = some (.cells #[.slice av s.all.length cv, .int .i64 (S : Int), .bool p, .int .i64 s.acts, .int .i64 s.inn, .int .i64 s.keep] 45 (0, 0)) ∧ m < w2.heap.size := by
  have hm : m < W1.heap.size := lt_of_heap hc
  have hrow : W1.ownsRow 0 5 1 (.slice av s.all.length cv) s.all.length (bytesV s.all) := ownsRow_keep h.all (fun g hg => hO.block g (fun e => h.ne (by rw [← e, hg])))
  have ha := (Below.refl W1.heap.size W1).alloc (Nat.le_refl _) (.cells #[] 5)
  refine ⟨by rw [cell_of_heap hc]; rfl, by rw [cell_of_heap hc]; rfl, frozen_of_heap hc, (Rd.of_owns hrow).takeN T hT, ?_, ?_, fun w2 hb => ?_⟩
  · rw [ha.cell hm, cell_of_heap hc]; rfl
  · rw [ha.cell hm, cell_of_heap hc]; rfl
  · have hh := (hb.block m hm).trans hc
    exact ⟨by rw [cell_of_heap hh]; rfl, by rw [cell_of_heap hh]; rfl, by rw [cell_of_heap hh]; rfl, frozen_of_heap hh, hh, lt_of_heap hh⟩
set_option maxHeartbeats 2000000 in
theorem refoff_is (w : World) (m : Nat) (va : Value) (s : RefSt) (keep : Int) (h : RefAt w m va s) (ho : s.power = true) :
    Calls Try.prog 23 #[.pointer (some ⟨m, 0, none⟩), .int .i64 keep] w fun e w' => e = .returned (.tuple #[]) ∧ RefTo w m va (s.offed keep) w' := by
  have h0 : w.cell? ⟨m, 0, none⟩ = some va := by rw [cell_of_heap h.cells]; rfl
  have h1 : w.cell? ⟨m, 1, none⟩ = some (.int .i64 s.safe) := by rw [cell_of_heap h.cells]; rfl
  have h2 : w.cell? ⟨m, 2, none⟩ = some (.bool true) := by rw [cell_of_heap h.cells, ho]; rfl
  have hf := frozen_of_heap h.cells
  have hlen := h.len; have hsafe := h.safe
  obtain ⟨av, cv, rfl⟩ := owns_form h.all
  have HH := Lib.hid h; have HO := Lib.hid ho; clear h ho
  obtain ⟨d, hd⟩ : ∃ d, s.all.length = s.safe + d := ⟨s.all.length - s.safe, by omega⟩
  have hk0 : s.kept keep = (min (max keep 0) (d : Int)).toNat := by unfold RefSt.kept; rw [show s.all.length - s.safe = d from by omega]
  have HK0 := Lib.hid hk0; clear hk0
  have HCAP := Lib.hid (owns_cap HH.out.all)
  rcases (show keep < 0 ∨ (∃ n : Nat, keep = n ∧ n < d) ∨ ((d : Int) ≤ keep) from by
    by_cases h : keep < 0
    · exact .inl h
    · by_cases hk : keep < d
      · exact .inr (.inl ⟨keep.toNat, by omega, by omega⟩)
      · exact .inr (.inr (by omega))) with hk | ⟨n, rfl, hk⟩ | hk
  · obtain ⟨S, hS, hSl⟩ : ∃ S : Nat, S = s.safe + s.kept _ ∧ S = s.safe := ⟨s.safe, by rw [HK0.out]; omega, rfl⟩
    have hSle : S ≤ s.all.length := by omega
    have HSK := Lib.hid (refoffed s _ S HO.out hS); clear hS
    go_enter Try.func23, Try.ntmps23
    go_wp2_with fail
    go_quiet (fail)
    rw [show ((s.safe : Int) + (d : Int) - (s.safe : Int)) = (d : Int) from by omega]
    go_wp2_with fail
    have hS2 : (s.safe : Int) = (S : Int) := by omega
    rw [hS2]
    obtain ⟨W1, hW1⟩ : ∃ W1, W1 = (World.drewN w nq).setCell ⟨m, 1, none⟩ (.int .i64 (S : Int)) := ⟨_, rfl⟩
    rw [← hW1]
    have hO1 : Only m w W1 := by rw [hW1]; exact (⟨rfl, rfl, rfl, rfl, fun _ _ => rfl⟩ : Only m w (w.drewN nq)).setCell
    have hc1 : W1.heap[m]? = some (.cells #[.slice av s.all.length cv, .int .i64 (S : Int), .bool s.power, .int .i64 s.acts, .int .i64 s.inn, .int .i64 s.keep] 45 (0, 0)) := by rw [hW1]; exact heap_setCell_here _ HH.out.cells
    have g := reffacts HH.out hO1 hc1 S hSle
    obtain ⟨g0, g1, gf, gr, gk0, gk1, gb⟩ := g
    have GR := Lib.hid gr; have GB := Lib.hid gb
    have HO1 := Lib.hid hO1; have hSc : S ≤ cv := by have := HCAP.out.1; omega
    have HTL : Hid ((s.all.take S).length = S) := by show (s.all.take S).length = S; rw [List.length_take]; omega
    have HSL := Lib.hid hSl; have HD := Lib.hid hd
    clear gr gb hW1 hc1 hO1 h0 h1 h2 hf hSl hd hS2
    go_region_law (refine step_copy_bytes rfl (.tmp 36) (.tmp 45) rfl W1 1 rfl av cv (s.all.take S) (by first | (simp [Act.eval]; done) | (simp [Act.eval, Act.put]; done)) (by rw [HTL.out]; first | (simp [Act.eval]; done) | (simp [Act.eval, Act.put]; done)) GR.out (by rw [HTL.out]; omega) ?_; intro M c w2 hown hM hM2 hb2; obtain ⟨k0, k2, k4, kf, kk, hsz⟩ := GB.out w2 hb2; have HW := Lib.hid hown; have HB2 := Lib.hid hb2; have HKK := Lib.hid kk; clear hown hb2 kk)
    all_goals
      go_wp2
      go_end0
      rw [HSK.out]
      have hW := HW.out
      rw [HO1.out.size, HTL.out] at hW
      exact ⟨rfl, RefTo.fresh HH.out ((Ch.of_below HB2.out _).after HO1.out (by simp [refFoot])) HTL.out hW (Only.refl m _).setCell.setCell.setCell (heap_setCell_here _ (heap_setCell_here _ (heap_setCell_here _ HKK.out))) (by omega) (Nat.le_refl _) (by simp) (by simp) HH.out.acts0⟩
  · obtain ⟨S, hS, hSl⟩ : ∃ S : Nat, S = s.safe + s.kept _ ∧ S = s.safe + n := ⟨s.safe + n, by rw [HK0.out]; omega, rfl⟩
    have hSle : S ≤ s.all.length := by omega
    have HSK := Lib.hid (refoffed s _ S HO.out hS); clear hS
    go_enter Try.func23, Try.ntmps23
    go_wp2_with fail
    go_quiet (fail)
    rw [show ((s.safe : Int) + (d : Int) - (s.safe : Int)) = (d : Int) from by omega]
    go_wp2_with fail
    have hS2 : ((s.safe : Int) + (n : Int)) = (S : Int) := by omega
    rw [hS2]
    obtain ⟨W1, hW1⟩ : ∃ W1, W1 = (World.drewN w nq).setCell ⟨m, 1, none⟩ (.int .i64 (S : Int)) := ⟨_, rfl⟩
    rw [← hW1]
    have hO1 : Only m w W1 := by rw [hW1]; exact (⟨rfl, rfl, rfl, rfl, fun _ _ => rfl⟩ : Only m w (w.drewN nq)).setCell
    have hc1 : W1.heap[m]? = some (.cells #[.slice av s.all.length cv, .int .i64 (S : Int), .bool s.power, .int .i64 s.acts, .int .i64 s.inn, .int .i64 s.keep] 45 (0, 0)) := by rw [hW1]; exact heap_setCell_here _ HH.out.cells
    have g := reffacts HH.out hO1 hc1 S hSle
    obtain ⟨g0, g1, gf, gr, gk0, gk1, gb⟩ := g
    have GR := Lib.hid gr; have GB := Lib.hid gb
    have HO1 := Lib.hid hO1; have hSc : S ≤ cv := by have := HCAP.out.1; omega
    have HTL : Hid ((s.all.take S).length = S) := by show (s.all.take S).length = S; rw [List.length_take]; omega
    have HSL := Lib.hid hSl; have HD := Lib.hid hd
    clear gr gb hW1 hc1 hO1 h0 h1 h2 hf hSl hd hS2
    go_region_law (refine step_copy_bytes rfl (.tmp 36) (.tmp 45) rfl W1 1 rfl av cv (s.all.take S) (by first | (simp [Act.eval]; done) | (simp [Act.eval, Act.put]; done)) (by rw [HTL.out]; first | (simp [Act.eval]; done) | (simp [Act.eval, Act.put]; done)) GR.out (by rw [HTL.out]; omega) ?_; intro M c w2 hown hM hM2 hb2; obtain ⟨k0, k2, k4, kf, kk, hsz⟩ := GB.out w2 hb2; have HW := Lib.hid hown; have HB2 := Lib.hid hb2; have HKK := Lib.hid kk; clear hown hb2 kk)
    all_goals
      go_wp2
      go_end0
      rw [HSK.out]
      have hW := HW.out
      rw [HO1.out.size, HTL.out] at hW
      exact ⟨rfl, RefTo.fresh HH.out ((Ch.of_below HB2.out _).after HO1.out (by simp [refFoot])) HTL.out hW (Only.refl m _).setCell.setCell.setCell (heap_setCell_here _ (heap_setCell_here _ (heap_setCell_here _ HKK.out))) (by omega) (Nat.le_refl _) (by simp) (by simp) HH.out.acts0⟩
  · obtain ⟨S, hS, hSl⟩ : ∃ S : Nat, S = s.safe + s.kept _ ∧ S = s.safe + d := ⟨s.safe + d, by rw [HK0.out]; omega, rfl⟩
    have hSle : S ≤ s.all.length := by omega
    have HSK := Lib.hid (refoffed s _ S HO.out hS); clear hS
    go_enter Try.func23, Try.ntmps23
    go_wp2_with fail
    go_quiet (fail)
    rw [show ((s.safe : Int) + (d : Int) - (s.safe : Int)) = (d : Int) from by omega]
    go_wp2_with fail
    have hS2 : ((s.safe : Int) + (d : Int)) = (S : Int) := by omega
    rw [hS2]
    obtain ⟨W1, hW1⟩ : ∃ W1, W1 = (World.drewN w nq).setCell ⟨m, 1, none⟩ (.int .i64 (S : Int)) := ⟨_, rfl⟩
    rw [← hW1]
    have hO1 : Only m w W1 := by rw [hW1]; exact (⟨rfl, rfl, rfl, rfl, fun _ _ => rfl⟩ : Only m w (w.drewN nq)).setCell
    have hc1 : W1.heap[m]? = some (.cells #[.slice av s.all.length cv, .int .i64 (S : Int), .bool s.power, .int .i64 s.acts, .int .i64 s.inn, .int .i64 s.keep] 45 (0, 0)) := by rw [hW1]; exact heap_setCell_here _ HH.out.cells
    have g := reffacts HH.out hO1 hc1 S hSle
    obtain ⟨g0, g1, gf, gr, gk0, gk1, gb⟩ := g
    have GR := Lib.hid gr; have GB := Lib.hid gb
    have HO1 := Lib.hid hO1; have hSc : S ≤ cv := by have := HCAP.out.1; omega
    have HTL : Hid ((s.all.take S).length = S) := by show (s.all.take S).length = S; rw [List.length_take]; omega
    have HSL := Lib.hid hSl; have HD := Lib.hid hd
    clear gr gb hW1 hc1 hO1 h0 h1 h2 hf hSl hd hS2
    go_region_law (refine step_copy_bytes rfl (.tmp 36) (.tmp 45) rfl W1 1 rfl av cv (s.all.take S) (by first | (simp [Act.eval]; done) | (simp [Act.eval, Act.put]; done)) (by rw [HTL.out]; first | (simp [Act.eval]; done) | (simp [Act.eval, Act.put]; done)) GR.out (by rw [HTL.out]; omega) ?_; intro M c w2 hown hM hM2 hb2; obtain ⟨k0, k2, k4, kf, kk, hsz⟩ := GB.out w2 hb2; have HW := Lib.hid hown; have HB2 := Lib.hid hb2; have HKK := Lib.hid kk; clear hown hb2 kk)
    all_goals
      go_wp2
      go_end0
      rw [HSK.out]
      have hW := HW.out
      rw [HO1.out.size, HTL.out] at hW
      exact ⟨rfl, RefTo.fresh HH.out ((Ch.of_below HB2.out _).after HO1.out (by simp [refFoot])) HTL.out hW (Only.refl m _).setCell.setCell.setCell (heap_setCell_here _ (heap_setCell_here _ (heap_setCell_here _ HKK.out))) (by omega) (Nat.le_refl _) (by simp) (by simp) HH.out.acts0⟩

theorem RefAt.drewN {w : World} {m : Nat} {va : Value} {s : RefSt} (h : RefAt w m va s) (n : Nat) : RefAt (w.drewN n) m va s := ⟨h.cells, h.all, h.apart, h.len, h.safe, h.inn0, h.inn1, h.acts0⟩
set_option maxHeartbeats 400000 in
theorem refoff_any (w : World) (m : Nat) (va : Value) (s : RefSt) (keep : Int) (h : RefAt w m va s) :
    Calls Try.prog 23 #[.pointer (some ⟨m, 0, none⟩), .int .i64 keep] w fun e w' => e = .returned (.tuple #[]) ∧ RefTo w m va (s.offed keep) w' := by
  cases ho : s.power
  · have e : s.offed keep = s := by unfold RefSt.offed; rw [if_neg (by simp [ho])]
    rw [e]
    have h2 : w.cell? ⟨m, 2, none⟩ = some (.bool false) := by rw [cell_of_heap h.cells, ho]; rfl
    have HH := Lib.hid h; clear h ho e
    go_enter Try.func23, Try.ntmps23
    go_wp2
    refine bodyPost_ret (results_none rfl _ _ _) rfl ?_
    exact ⟨rfl, RefTo.refl HH.out⟩
  · exact refoff_is w m va s keep h ho
def RefSt.acted (s : RefSt) : RefSt :=
  if s.inn = 0 then { s with acts := s.acts + 1 }
  else if 0 < s.inn - 1 then { s with acts := s.acts + 1, inn := s.inn - 1 }
  else ({ s with acts := s.acts + 1, inn := s.inn - 1 } : RefSt).offed s.keep
/-- Does the power go in the next act? -/
def RefSt.goes (s : RefSt) : Bool := s.inn == 1
set_option maxHeartbeats 1000000 in
theorem refact_any (w : World) (m : Nat) (va : Value) (s : RefSt) (h : RefAt w m va s) (ha : s.acts < 4611686018427387904) :
    Calls Try.prog 34 #[.pointer (some ⟨m, 0, none⟩)] w fun e w' => e = .returned (.bool s.goes) ∧ RefTo w m va s.acted w' := by
  have h3 : w.cell? ⟨m, 3, none⟩ = some (.int .i64 s.acts) := by rw [cell_of_heap h.cells]; rfl
  have h4 : w.cell? ⟨m, 4, none⟩ = some (.int .i64 s.inn) := by rw [cell_of_heap h.cells]; rfl
  have h5 : w.cell? ⟨m, 5, none⟩ = some (.int .i64 s.keep) := by rw [cell_of_heap h.cells]; rfl
  have hf := frozen_of_heap h.cells
  have hi0 := h.inn0; have hi1 := h.inn1; have ha0 := h.acts0
  have HH := Lib.hid h; clear h
  by_cases h0 : s.inn = 0
  · have e : s.acted = { s with acts := s.acts + 1 } := by unfold RefSt.acted; rw [if_pos h0]
    have e2 : s.goes = false := by unfold RefSt.goes; rw [h0]; rfl
    rw [e, e2]
    have h0' : (s.inn == 0) = true := by simp [h0]
    have H0 := Lib.hid h0; clear e e2 h0
    go_enter Try.func34, Try.ntmps34
    go_wp2
    go_ret
    exact ⟨rfl, RefTo.plain HH.out (Only.refl m _).setCell (heap_setCell_here _ HH.out.cells) rfl HH.out.safe hi0 hi1 (by show 0 ≤ s.acts + 1; omega)⟩
  · have h0' : (s.inn == 0) = false := by simp [h0]
    by_cases h1 : s.inn = 1
    · have e : s.acted = ({ s with acts := s.acts + 1, inn := 0 } : RefSt).offed s.keep := by unfold RefSt.acted; rw [if_neg h0, if_neg (by omega), show s.inn - 1 = 0 from by omega]
      have e2 : s.goes = true := by unfold RefSt.goes; rw [h1]; rfl
      rw [e, e2]
      have e0 : s.inn - 1 = 0 := by omega
      have h1' : ¬ 0 < s.inn - 1 := by omega
      have hplain : ∀ W, Only m w W → W.heap[m]? = some (.cells #[va, .int .i64 s.safe, .bool s.power, .int .i64 (s.acts + 1), .int .i64 (s.inn - 1), .int .i64 s.keep] 45 (0, 0)) → RefTo w m va { s with acts := s.acts + 1, inn := 0 } W := by
        intro W hO hc
        exact RefTo.plain HH.out hO (by rw [hc, e0]) rfl HH.out.safe (by simp) (by simp) (by show 0 ≤ s.acts + 1; omega)
      have HP := Lib.hid hplain; clear e h1 hplain e0 h0 e2
      go_enter Try.func34, Try.ntmps34
      go_wp2_with fail
      obtain ⟨va1, r1, c1, f1⟩ := HP.out ((w.setCell ⟨m, 3, none⟩ (.int .i64 (s.acts + 1))).setCell ⟨m, 4, none⟩ (.int .i64 (s.inn - 1))) ((Only.refl m _).setCell.setCell) (heap_setCell_here _ (heap_setCell_here _ HH.out.cells))
      refine (refoff_any _ m va1 _ _ r1).mono ?_
      rintro e w2 ⟨rfl, hto⟩
      have HT := Lib.hid (RefTo.trans c1 f1 hto)
      clear r1 c1 f1 hto
      go_wp2
      go_ret
      exact ⟨rfl, HT.out⟩
    · have e : s.acted = { s with acts := s.acts + 1, inn := s.inn - 1 } := by unfold RefSt.acted; rw [if_neg h0, if_pos (by omega)]
      have e2 : s.goes = false := by unfold RefSt.goes; simp [h1]
      rw [e, e2]
      have h1' : 0 < s.inn - 1 := by omega
      clear e e2 h1 h0
      go_enter Try.func34, Try.ntmps34
      go_wp2
      go_ret
      exact ⟨rfl, RefTo.plain HH.out (Only.refl m _).setCell.setCell (heap_setCell_here _ (heap_setCell_here _ HH.out.cells)) rfl HH.out.safe (by show 0 ≤ s.inn - 1; omega) (by show s.inn - 1 < _; omega) (by show 0 ≤ s.acts + 1; omega)⟩
end Go.Proofs.Ytebeafpoblhlhaa
