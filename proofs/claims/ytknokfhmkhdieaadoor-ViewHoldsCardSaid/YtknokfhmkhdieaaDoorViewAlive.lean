/- DERIVED. What the document tells of a view is so. -/
import Derived.Test.YtknokfhmkhdieaaDoorViewArg
namespace Go.Proofs.YtknokfhmkhdieaaDoor
open Go.RowKit
set_option linter.unusedVariables false

def mA : List Mt := [([105, 110, 47, 108, 105, 98], [([97], [120])]), ([105, 110, 47, 116, 111, 111, 108], [([98], [121])])]
def mB : List Mt := [([105, 110], []), ([105, 110, 47, 108, 105, 98], [])]
def mR : List Pr := [([105, 110, 47, 108, 105, 98, 47, 97], [120]), ([105, 110, 47, 116, 111, 111, 108, 47, 98], [121])]
theorem mA_is : buildT mA = (0, mR) := by kernel_rfl
theorem mB_is : buildT mB = (12, []) := by kernel_rfl
theorem run_eql_func_nil {P : Program} (w : World) (t : TypeId) {ps rs : Array TypeId} {v : Bool} (f : Fn) (xs ys : Array Value) (h : P.underlying t = some (.func ps rs v)) : (binOp .eql t (.func f xs ys) .nilFunc).run P w = .ok (.bool false) w := by
  have key : ∀ d, (Op.equalIn (d + 1) t (.func f xs ys) .nilFunc).run P w = .ok false w := fun d => by simp [Op.equalIn, run_underlying h]
  simp only [binOp]
  simp [Op.equal, Op.maxDepth, key 9999]
theorem outside_any (w : World) (a a' : Option Addr) (n c n' c' : Nat) : Calls Tryd.prog 15 #[.agg #[.slice a n c], .slice a' n' c'] w (fun e w' => e = .returned (.func (.func 28) #[] #[.pointer (some ⟨w.heap.size, 0, none⟩), .pointer (some ⟨w.heap.size + 1, 0, none⟩)]) ∧ w' = (w.alloc (.cells #[.slice a n c] 27)).alloc (.cells #[.slice a' n' c'] 34)) := by
  go_enter Tryd.func15, Tryd.ntmps15
  go_wp2_with fail
  go_ret
  exact ⟨by simp, rfl⟩
theorem mtOk_of {ms : List Mt} (h : ms.all (fun m => decide (m.1.length ≤ 400000) && decide (m.2.length ≤ 1000000) && m.2.all (fun p => decide (p.1.length ≤ 400000))) = true) : MtOk ms := by
  have hx := List.all_eq_true.1 h
  refine ⟨fun m hm => ?_, fun m hm => ?_, fun m hm p hp => ?_⟩
  · have := hx m hm; simp only [Bool.and_eq_true, decide_eq_true_iff] at this; exact this.1.1
  · have := hx m hm; simp only [Bool.and_eq_true, decide_eq_true_iff] at this; exact this.1.2
  · have := hx m hm; simp only [Bool.and_eq_true] at this
    have := List.all_eq_true.1 this.2 p hp
    simpa using this
theorem rdFl_one {w : World} {b : Nat} {u v : List UInt8} (h : w.heap[b]? = some (.cells #[strV u, strV v] 47 (0, 0))) : RdFl w (some ⟨b, 0, none⟩) [(u, v)] := fun _ =>
  ⟨b, 0, rfl, lt_of_heap h, fun i p hi => by
    cases i with
    | zero =>
      obtain rfl := Option.some.inj hi
      exact ⟨cell_of_heap h 0, cell_of_heap h 1⟩
    | succ i => cases hi⟩
theorem rdMt_two {w : World} {b : Nat} {u v : List UInt8} {a1 a2 : Option Addr} {c1 c2 : Nat} {f1 f2 : List Pr} {t : TypeId} (h : w.heap[b]? = some (.cells #[strV u, .slice a1 f1.length c1, strV v, .slice a2 f2.length c2] t (0, 0)))
    (h1 : RdFl w a1 f1) (s1 : Sl a1 f1.length c1) (h2 : RdFl w a2 f2) (s2 : Sl a2 f2.length c2) : RdMt w (some ⟨b, 0, none⟩) [(u, f1), (v, f2)] := fun _ =>
  ⟨b, 0, rfl, lt_of_heap h, fun i p hi => by
    match i, hi with
    | 0, hi =>
      obtain rfl := Option.some.inj hi
      exact ⟨cell_of_heap h 0, a1, c1, cell_of_heap h 1, h1, s1⟩
    | 1, hi =>
      obtain rfl := Option.some.inj hi
      exact ⟨cell_of_heap h 2, a2, c2, cell_of_heap h 3, h2, s2⟩
    | i + 2, hi => cases hi⟩
theorem sl_some (x : Addr) (n c : Nat) : Sl (some x) n c := ⟨fun e => by cases e⟩
theorem sl_nil : Sl none 0 0 := ⟨fun _ => ⟨rfl, rfl⟩⟩
theorem new_obj (w : World) (cs : Array Value) (t : TypeId) : ∃ w1, w.alloc (.cells cs t) = w1 ∧ Below w.heap.size w w1 ∧ w1.heap[w.heap.size]? = some (.cells cs t (0, 0)) ∧ w.heap.size + 1 ≤ w1.heap.size ∧ w1.heap.size ≤ w.heap.size + 1 :=
  ⟨_, rfl, (Below.refl _ w).alloc (Nat.le_refl _) _, heap_alloc_new w _, by simp, by simp⟩
theorem buildA (w : World) : Calls Tryd.prog 10 #[.slice (some ⟨w.heap.size + 2, 0, none⟩) 2 2] (((w.alloc (.cells #[strV [97], strV [120]] 47)).alloc (.cells #[strV [98], strV [121]] 47)).alloc (.cells #[strV [105, 110, 47, 108, 105, 98], .slice (some ⟨w.heap.size, 0, none⟩) 1 1, strV [105, 110, 47, 116, 111, 111, 108], .slice (some ⟨w.heap.size + 1, 0, none⟩) 1 1] 36))
    (fun e w' => ∃ g c, e = .returned (.tuple #[.agg #[.slice (some ⟨g, 0, none⟩) 2 c], .int .i64 0]) ∧ w.heap.size ≤ g ∧ FlRow w' g mR ∧ Below w.heap.size w w') := by
  obtain ⟨w1, hw1, hb1, hx1, z1, z2⟩ := new_two w (strV [97]) (strV [120]) 47
  obtain ⟨w2, hw2, hb2, hx2, z3, z4⟩ := new_two w1 (strV [98]) (strV [121]) 47
  obtain ⟨w3, hw3, hb3, hx3, z5, z6⟩ := new_obj w2 #[strV [105, 110, 47, 108, 105, 98], .slice (some ⟨w.heap.size, 0, none⟩) 1 1, strV [105, 110, 47, 116, 111, 111, 108], .slice (some ⟨w.heap.size + 1, 0, none⟩) 1 1] 36
  have e1 : w1.heap.size = w.heap.size + 1 := by omega
  have e2 : w2.heap.size = w.heap.size + 2 := by omega
  rw [hw1, hw2, hw3]
  rw [e2] at hx3
  rw [e1] at hx2
  have hb23 := hb2.trans (hb3.mono hb2.size)
  have hy1 := (hb23.block _ (by omega)).trans hx1
  have hy2 := (hb3.block _ (by omega)).trans hx2
  have hrd : RdMt w3 (some ⟨w.heap.size + 2, 0, none⟩) mA := rdMt_two hx3 (rdFl_one hy1) (sl_some _ _ _) (rdFl_one hy2) (sl_some _ _ _)
  refine (build_any w3 _ 2 mA hrd (Nat.le_refl _) (by unfold maxLen; omega) (by decide) (mtOk_of (by kernel_rfl))).mono ?_
  rintro e w' ⟨a, c, rfl, hrow, hb⟩
  rw [mA_is] at hrow ⊢
  have hb13 := hb1.trans (hb23.mono hb1.size)
  rcases hrow with ⟨_, e, _⟩ | ⟨g, rfl, hg, hf⟩
  · cases e
  · exact ⟨g, c, rfl, Nat.le_trans hb13.size hg, hf, hb13.trans (hb.mono hb13.size)⟩
theorem buildB (w : World) : Calls Tryd.prog 10 #[.slice (some ⟨w.heap.size, 0, none⟩) 2 2] (w.alloc (.cells #[strV [105, 110], .slice none 0 0, strV [105, 110, 47, 108, 105, 98], .slice none 0 0] 36))
    (fun e w' => ∃ a c, e = .returned (.tuple #[.agg #[.slice a 0 c], .int .i64 12]) ∧ Below w.heap.size w w') := by
  obtain ⟨w3, hw3, hb3, hx3, z5, z6⟩ := new_obj w #[strV [105, 110], .slice none 0 0, strV [105, 110, 47, 108, 105, 98], .slice none 0 0] 36
  rw [hw3]
  have hrd : RdMt w3 (some ⟨w.heap.size, 0, none⟩) mB := rdMt_two (f1 := []) (f2 := []) hx3 (RdFl.nil _ _) sl_nil (RdFl.nil _ _) sl_nil
  refine (build_any w3 _ 2 mB hrd (Nat.le_refl _) (by unfold maxLen; omega) (by decide) (mtOk_of (by kernel_rfl))).mono ?_
  rintro e w' ⟨a, c, rfl, hrow, hb⟩
  rw [mB_is]
  exact ⟨a, c, rfl, hb3.trans (hb.mono hb3.size)⟩
set_option maxRecDepth 100000 in
set_option maxHeartbeats 4000000 in
theorem alive_any (w : World) : Calls Tryd.prog 8 #[] w (fun e w' => e = .returned (.bool true) ∧ Below w.heap.size w w') := by
  have hnf := fun W x y => run_eql_func_nil (P := Tryd.prog) W 39 (Fn.func 28) #[] #[.pointer (some x), .pointer (some y)] Tryd.underlying39
  have HO := Lib.hid (outside_any w none none 0 0 0 0)
  have HA := Lib.hid buildA; have HB := Lib.hid buildB
  unfold strV at HA HB
  go_enter Tryd.func8, Tryd.ntmps8
  go_wp2_with fail
  refine HO.out.mono ?_
  rintro e w1 ⟨rfl, hw1⟩
  have HB1 := Lib.hid (show Below w.heap.size w w1 by rw [hw1]; exact ((Below.refl _ w).alloc (Nat.le_refl _) _).alloc (by simp) _)
  clear hw1
  go_wp2_with fail
  refine (HA.out w1).mono ?_
  rintro e w2 ⟨g, c, rfl, hg, hf, hb2⟩
  have HB2 := Lib.hid (HB1.out.trans (hb2.mono HB1.out.size))
  obtain ⟨w3, hw3, hb3, hx3, z1, z2⟩ := new_cell w2 (.slice (some ⟨g, 0, none⟩) 2 c) 27
  have HX3 := Lib.hid hx3
  have HF3 := Lib.hid (hf.keep (hb3.block g hf.lt))
  have HB3 := Lib.hid (HB2.out.trans (hb3.mono HB2.out.size))
  clear hf hb2 hb3 hx3 z1 z2
  go_wp2_with fail
  refine (HB.out w3).mono ?_
  rintro e w4 ⟨a4, c4, rfl, hb4⟩
  obtain ⟨w5, hw5, hb5, hx5, z1, z2⟩ := new_cell w4 (.slice a4 0 c4) 27
  have hb35 := hb4.trans (hb5.mono hb4.size)
  have q0 := cell_of_heap ((hb35.block _ (lt_of_heap HX3.out)).trans HX3.out) 0
  have hf5 := HF3.out.keep (hb35.block g HF3.out.lt)
  have r0 := (hf5.cell (k := 0) (p := ([105, 110, 47, 108, 105, 98, 47, 97], [120])) rfl).1
  have HB5 := Lib.hid (HB3.out.trans (hb35.mono HB3.out.size))
  unfold strV at r0
  dsimp only at r0
  clear hb4 hb5 hx5 z1 z2 hb35 hf5
  go_wp2_with fail
  go_ret
  exact ⟨rfl, HB5.out⟩
end Go.Proofs.YtknokfhmkhdieaaDoor
