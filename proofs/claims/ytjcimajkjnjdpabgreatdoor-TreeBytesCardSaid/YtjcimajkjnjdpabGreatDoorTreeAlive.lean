/- DERIVED. What the document tells of a tree is so. -/
import Derived.Test.YtjcimajkjnjdpabGreatDoorTreeEnc
import Derived.Laws.EntriesVeiled
namespace Go.Proofs.YtjcimajkjnjdpabGreatDoor
open Go.RowKit
set_option linter.unusedVariables false

def fA : List Pr := [([98], [120]), ([97, 47, 99], [])]
def fR : List Pr := [([97, 47, 99], []), ([98], [120])]
def fB : List Pr := [([97], []), ([97, 47, 98], [])]
theorem fA_is : makeT fA = (0, fR) := by kernel_rfl
theorem fB_is : makeT fB = (12, []) := by kernel_rfl
theorem fR_good : goodT fR = true := by kernel_rfl
theorem fR_bytes : bytesT fR = ([40, 40, 51, 58, 97, 47, 99, 48, 58, 41, 40, 49, 58, 98, 49, 58, 120, 41, 41], 0) := by
  unfold bytesT
  rw [if_pos fR_good, encT_iff]
  refine ⟨rfl, ?_, by decide⟩
  simp only [nodeT, fileT, leafT, fR, List.map, catT, catsT, atomB_eq]
  rw [show ([97, 47, 99] : List UInt8).length = 3 from rfl, show ([] : List UInt8).length = 0 from rfl, show ([98] : List UInt8).length = 1 from rfl, show ([120] : List UInt8).length = 1 from rfl, decDigits_small (by decide), decDigits_small (by decide), decDigits_small (by decide)]
  rfl
theorem run_eql_func_nil {P : Program} (w : World) (t : TypeId) {ps rs : Array TypeId} {v : Bool} (f : Fn) (xs ys : Array Value) (h : P.underlying t = some (.func ps rs v)) : (binOp .eql t (.func f xs ys) .nilFunc).run P w = .ok (.bool false) w := by
  have key : ∀ d, (Op.equalIn (d + 1) t (.func f xs ys) .nilFunc).run P w = .ok false w := fun d => by simp [Op.equalIn, run_underlying h]
  simp only [binOp]
  simp [Op.equal, Op.maxDepth, key 9999]
theorem names_any (w : World) (a : Option Addr) (n c : Nat) (S : ByteArray) : Calls Tryz.prog 18 #[.agg #[.slice a n c], .string S] w (fun e w' => e = .returned (.func (.func 42) #[] #[.pointer (some ⟨w.heap.size, 0, none⟩), .pointer (some ⟨w.heap.size + 1, 0, none⟩)]) ∧ w' = (w.alloc (.cells #[.slice a n c] 24)).alloc (.cells #[.string S] 9)) := by
  go_enter Tryz.func18, Tryz.ntmps18
  go_wp2_with fail
  go_ret
  exact ⟨by simp, rfl⟩
theorem rdFl_two {w : World} {b : Nat} {p q : Pr} (h : w.heap[b]? = some (.cells #[strV p.1, strV p.2, strV q.1, strV q.2] 35 (0, 0))) : RdFl w (some ⟨b, 0, none⟩) [p, q] := fun _ =>
  ⟨b, 0, rfl, lt_of_heap h, fun i x hi => by
    match i, hi with
    | 0, hi =>
      obtain rfl := Option.some.inj hi
      exact ⟨cell_of_heap h 0, cell_of_heap h 1⟩
    | 1, hi =>
      obtain rfl := Option.some.inj hi
      exact ⟨cell_of_heap h 2, cell_of_heap h 3⟩
    | i + 2, hi => cases hi⟩
theorem make_two (w : World) (p q : Pr) (x : Int) (r : List Pr) (k : Nat) (hk : r.length = k) (hm : makeT [p, q] = (x, r)) (h1 : p.1.length ≤ 100) (h2 : q.1.length ≤ 100) : Calls Tryz.prog 19 #[.slice (some ⟨w.heap.size, 0, none⟩) 2 2] (w.alloc (.cells #[strV p.1, strV p.2, strV q.1, strV q.2] 35))
    (fun e w' => ∃ a c, e = .returned (.tuple #[.agg #[.slice a k c], .int .i64 x]) ∧ RowAt w' w.heap.size a c r ∧ Below w.heap.size w w') := by
  obtain ⟨w1, hw1, hb1, hx1, z1, z2⟩ := new_n w #[strV p.1, strV p.2, strV q.1, strV q.2] 35
  rw [hw1]
  refine (make_any w1 _ 2 [p, q] (rdFl_two hx1) ⟨fun e => by cases e⟩ (by simp) (fun y hy => by rcases List.mem_cons.1 hy with rfl | hy; omega; obtain rfl := List.mem_singleton.1 hy; omega)).mono ?_
  rintro e w' ⟨a, c, rfl, hrow, hb⟩
  rw [hm] at hrow ⊢
  subst hk
  exact ⟨a, c, rfl, hrow.base hb1.size, hb1.trans (hb.mono hb1.size)⟩
set_option maxRecDepth 100000 in
set_option maxHeartbeats 4000000 in
theorem alive_any (w : World) (htab : Tab w) : Calls Tryz.prog 5 #[] w (fun e w' => e = .returned (.bool true) ∧ Below w.heap.size w w') := by
  have hnf := fun W x y => run_eql_func_nil (P := Tryz.prog) W 45 (Fn.func 42) #[] #[.pointer (some x), .pointer (some y)] Tryz.underlying45
  have HO := Lib.hid (names_any w none 0 0 ⟨#[]⟩)
  have HA := Lib.hid (fun W => make_two W ([98], [120]) ([97, 47, 99], []) 0 fR 2 rfl fA_is (by decide) (by decide))
  have HB := Lib.hid (fun W => make_two W ([97], []) ([97, 47, 98], []) 12 [] 0 rfl fB_is (by decide) (by decide))
  have HT := Lib.hid htab
  unfold strV at HA HB
  clear htab
  go_enter Tryz.func5, Tryz.ntmps5
  go_wp2_with fail
  refine HO.out.mono ?_
  rintro e w1 ⟨rfl, hw1⟩
  have HB1 := Lib.hid (show Below w.heap.size w w1 by rw [hw1]; exact ((Below.refl _ w).alloc (Nat.le_refl _) _).alloc (by simp) _)
  clear hw1
  go_wp2_with fail
  refine (HA.out w1).mono ?_
  rintro e w2 ⟨a2, c2, rfl, hrow, hb2⟩
  have HB2 := Lib.hid (HB1.out.trans (hb2.mono HB1.out.size))
  have hen := fun W (h : Below w2.heap.size w2 W) => tenc_any W a2 c2 fR ((hrow.below h).rd) hrow.sl (by decide) (by decide) (HT.out.below (HB2.out.trans (h.mono HB2.out.size)))
  rw [fR_bytes, show fR.length = 2 from rfl] at hen
  unfold strV at hen
  dsimp only at hen
  have HEN := Lib.hid hen
  obtain ⟨w3, hw3, hb3, hx3, z1, z2⟩ := new_cell w2 (.slice a2 2 c2) 24
  have q0 := cell_of_heap hx3 0
  have HB23 := Lib.hid hb3
  have HB3 := Lib.hid (HB2.out.trans (hb3.mono HB2.out.size))
  clear hb2 hb3 hx3 z1 z2 hen hrow
  go_wp2_with fail
  refine (HEN.out w3 HB23.out).mono ?_
  rintro e w4 ⟨rfl, hb4⟩
  have HB4 := Lib.hid (HB3.out.trans (hb4.mono HB3.out.size))
  clear hb4 q0
  go_wp2_with fail
  refine (HB.out w4).mono ?_
  rintro e w5 ⟨a5, c5, rfl, _, hb5⟩
  have HB5 := Lib.hid (HB4.out.trans (hb5.mono HB4.out.size))
  clear hb5
  go_wp2_with fail
  go_ret
  exact ⟨rfl, HB5.out.alloc HB5.out.size _⟩
end Go.Proofs.YtjcimajkjnjdpabGreatDoor
