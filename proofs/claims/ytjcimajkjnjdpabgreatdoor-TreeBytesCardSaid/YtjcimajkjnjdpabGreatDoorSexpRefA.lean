/- DERIVED. The reference's room; Atom, Leaves' making. -/
import Derived.Test.YtjcimajkjnjdpabGreatDoorSexpAtA
namespace Go.Proofs.YtjcimajkjnjdpabGreatDoor
open Go.RowKit
set_option linter.unusedVariables false

theorem room_any (w : World) (a : Option Addr) (n c : Nat) : Calls Tryz.prog 72 #[.slice a n c] w (fun e w' => e = .returned (if 65536 < n then .tuple #[.slice none 0 0, .int .i64 3] else .tuple #[.slice a n c, .int .i64 0]) ∧ w = w') := by
  by_cases h : 65536 < n
  · rw [if_pos h]
    go_enter Tryz.func72, Tryz.ntmps72
    go_wp2
    go_ret2
    exact ⟨rfl, rfl⟩
  · rw [if_neg h]
    go_enter Tryz.func72, Tryz.ntmps72
    go_wp2
    go_ret2
    exact ⟨rfl, rfl⟩
/-- Bytes that grow: a row of the call's own, in the blocks S or new ones behind w1; nothing else has changed since w1. -/
structure Buf (w1 : World) (S : List Nat) (w : World) (v : Value) (n : Nat) (l : List UInt8) : Prop where
  own : w.ownsRow 0 5 1 v n (bytesV l)
  foot : ∀ g, v.ownBlock = some g → g ∈ S ∨ w1.heap.size ≤ g
  ch : Ch S w1 w
theorem Buf.below {w1 w w' : World} {S : List Nat} {v : Value} {n : Nat} {l : List UInt8} (h : Buf w1 S w v n l) (hb : Below w.heap.size w w') : Buf w1 S w' v n l :=
  ⟨ownsRow_keep h.own (fun g hg => hb.block g (owns_lt h.own g hg)), h.foot, h.ch.trans (Ch.of_below hb []) (by simp)⟩
theorem Buf.drew {w1 w : World} {S : List Nat} {v : Value} {n : Nat} {l : List UInt8} (h : Buf w1 S w v n l) : Buf w1 S w.drew v n l := h.below (Below.drew (Below.refl _ _))
theorem Buf.alloc {w1 w : World} {S : List Nat} {v : Value} {n : Nat} {l : List UInt8} (h : Buf w1 S w v n l) (o : Obj) : Buf w1 S (w.alloc o) v n l := h.below ((Below.refl _ w).alloc (Nat.le_refl _) o)
theorem Buf.app {w1 w w' : World} {S : List Nat} {v v' : Value} {n m : Nat} {l s : List UInt8} (h : Buf w1 S w v n l) (ho : w'.ownsRow 0 5 1 v' (n + m) (bytesV l ++ bytesV s)) (hg : w.grownBy w' v.ownBlock)
    (hbk : v'.ownBlock = v.ownBlock ∨ v'.ownBlock = some w.heap.size) : Buf w1 S w' v' (n + m) (l ++ s) := by
  refine ⟨by rw [bytesV_append]; exact ho, fun g hg' => ?_, h.ch.grown hg (fun k hk => h.foot k hk)⟩
  rcases hbk with e | e
  · rw [e] at hg'; exact h.foot g hg'
  · rw [e] at hg'
    have := Option.some.inj hg'
    have := h.ch.size
    exact .inr (by omega)
theorem Buf.cell {w1 w : World} {S : List Nat} {v : Value} {n : Nat} {l : List UInt8} (h : Buf w1 S w v n l) {a : Addr} (ha : a.block < w1.heap.size) (hS : a.block ∉ S) : w.cell? a = w1.cell? a := by
  have := h.ch.block _ ha hS
  unfold World.cell?
  rw [this]
theorem Ch.cell {S : List Nat} {w w' : World} (h : Ch S w w') {a : Addr} (ha : a.block < w.heap.size) (hS : a.block ∉ S) : w'.cell? a = w.cell? a := by
  have := h.block _ ha hS
  unfold World.cell?
  rw [this]
theorem Buf.start {w1 : World} {v : Value} {n : Nat} {l : List UInt8} (h : w1.ownsRow 0 5 1 v n (bytesV l)) : Buf w1 v.ownBlock.toList w1 v n l := ⟨h, fun g hg => .inl (by rw [hg]; simp), Ch.refl _ _⟩
/-- One byte in a new block, as a source. -/
theorem byte_src (w : World) (c : UInt8) (n : Nat) : Src Tryz.prog 1 80 (.slice (some ⟨w.heap.size, 0, none⟩) 1 1) 1 (bytesV [c]) ((w.alloc (.cells #[.int .u8 (c.toNat : Int)] 5)).drewN n) := by
  have h : Rd ((w.alloc (.cells #[.int .u8 (c.toNat : Int)] 5)).drewN n) (.slice (some ⟨w.heap.size, 0, none⟩) 1 1) (bytesV [c]) := by
    refine ⟨_, 1, rfl, Nat.le_refl _, fun h => (Option.some_ne_none _ h).elim, fun ad e j u hj => ?_⟩
    obtain rfl := Option.some.inj e
    have hh : ((w.alloc (.cells #[.int .u8 (c.toNat : Int)] 5)).drewN n).heap[w.heap.size]? = some (.cells #[.int .u8 (c.toNat : Int)] 5 (0, 0)) := heap_alloc_new w _
    rw [Addr.add_lit, Nat.zero_add, cell_of_heap hh]
    simpa [bytesV] using hj
  exact h.src Tryz.underlying80 (bytesV_one [c])
end Go.Proofs.YtjcimajkjnjdpabGreatDoor
