/- DERIVED. A range over a function: a function that holds one, entered plainly; the iterator over pairs of texts. -/
import Derived.RangeFuncNested
import Derived.RangeFuncBound
import Derived.RangeFuncCalls
import Derived.RangeFuncLeaves
import Derived.Shelf.Abstract
import Derived.Shelf.RegionOpen
import Derived.OwnWalkIn
import Derived.TacticsInMore
import Derived.LoopNIn
import Derived.LoopIn
import Derived.Test.YtipindjchcmckaaShelfE
namespace Go.Proofs.Ytipindjchcmckaa
open Go.RowKit Go.Shelf
set_option linter.unusedVariables false
attribute [local go_sem] Oper.semAt_some

theorem calls_of_wp_marks {P : Program} {f : FuncId} {fn : Func} {c : Code} {args : Array Value} {w : World} {R : Ending → World → Prop} (hf : P.funcs[f]? = some fn) (hb : fn.body = some c)
    (h : c.wp P (bodyPostM Fence.wide 3 P fn R) { tmps := args ++ Array.replicate (fn.ntmps - args.size) undef, defers := [] } w) : Calls P f args w R :=
  (callsIn_wide (n := 3)).1 (callsIn_of_wp_marks hf hb trivial (wpIn_wide.2 h) rfl)
theorem marks_ret0 {P : Program} {fn : Func} {R : Ending → World → Prop} {a : Act} {w : World} {v : Value} (h : (results fn a.tmps).run P w = .ok v w) (hd : a.defers = []) (hR : R (.returned v) w) : bodyPostM Fence.wide 3 P fn R .ret a w := by
  show LeavesInM _ _ _ _ _ _ a.defers .returning w
  rw [hd]
  exact ⟨v, h, hR⟩
theorem marks_ret1 {P : Program} {fn : Func} {R : Ending → World → Prop} {a : Act} {w : World} {v : Value} {D : Nat} (hd : a.defers = [{ target := .collected D, args := #[] }]) (hK : w.heap[D]? = some (.deferred (some [])))
    (h : (results fn a.tmps).run P (w.putObj D (.deferred none)) = .ok v (w.putObj D (.deferred none))) (hR : R (.returned v) (w.putObj D (.deferred none))) : bodyPostM Fence.wide 3 P fn R .ret a w := by
  show LeavesInM _ _ _ _ _ _ a.defers .returning w
  rw [hd]
  exact ⟨by simp, .inl ⟨D, _, rfl, run_takeDeferred hK, v, h, hR⟩⟩
/-- What the iterator asks of a round: its row stays. -/
def KpS (S : List Nat) (W W' : World) : Prop := ∀ k ∈ S, W'.heap[k]? = W.heap[k]?
theorem KpS.trans {S : List Nat} {A B C : World} (h : KpS S A B) (k : KpS S B C) : KpS S A C := fun x hx => (k x hx).trans (h x hx)
def encP (p : Pr) : Array Value := #[strV p.1, strV p.2]
theorem over_stops (n C g : Nat) (c : Nat) (a : Option Addr) (ps : List Pr) (w : World) (hn : 1 ≤ n) (hl : ps.length ≤ 1000000) (hC : w.heap[C]? = some (.cells #[.slice a ps.length c] 55 (0, 0))) (hr : RdPairs w a ps) (hg : ∀ b, a = some ⟨b, 0, none⟩ → b = g) :
    SeqStopsK Fence.wide n Try.prog 43 #[.pointer (some ⟨C, 0, none⟩)] encP (KpS [g]) (fun ys => ys = ps) (fun pre => pre <+: ps) ps.length w := by
  intro l J Jx W hW hJ hJx hY h0
  have hC' := cell_of_heap ((hW.block C (lt_of_heap hC)).trans hC) 0
  have HR := Lib.hid (hr.below hW); have HJ := Lib.hid hJ; have HG := Lib.hid hg
  clear hC hr hW hJ hJx hg
  refine callsIn_of_wp Try.func43 rfl trivial ?_ rfl
  simp only [Try.ntmps43, List.size_toArray, List.length_cons, List.length_nil, Nat.reduceAdd, Nat.reduceSub, Array.replicate_succ, Array.replicate_zero, List.push_toArray, List.append_toArray, List.nil_append, List.cons_append]
  gi_wp2
  gi_loopw [7] (fun i wr => ∃ k : Nat, k ≤ ps.length ∧ i = .int .i64 k ∧ Hid (J (ps.take k) wr) ∧ Hid (ps ≠ [] → wr.heap[g]? = W.heap[g]?)) (fun i _ => ps.length - (intOf i).toNat)
  case atStart => exact ⟨0, Nat.zero_le _, rfl, h0, fun _ => rfl⟩
  case round =>
    obtain ⟨k, hk, rfl, hJs, hnx⟩ := hrel
    by_cases hlt : k < ps.length
    · have hne : ps ≠ [] := by intro e; rw [e] at hlt; exact absurd hlt (Nat.not_lt_zero _)
      obtain ⟨b, rfl, hb, hc⟩ := HR.out hne
      obtain rfl := HG.out b rfl
      obtain ⟨p, hp⟩ : ∃ p, ps[k]? = some p := ⟨_, List.getElem?_eq_getElem hlt⟩
      have hblk := hnx.out hne
      have c0 : wr.cell? ⟨b, k * 2, none⟩ = some (strV p.1) := (World.cell?_of_block (a := ⟨b, k * 2, none⟩) hblk).trans (hc k p hp).1
      have c1 : wr.cell? ⟨b, k * 2 + 1, none⟩ = some (strV p.2) := (World.cell?_of_block (a := ⟨b, k * 2 + 1, none⟩) hblk).trans (hc k p hp).2
      have hbw : b < wr.heap.size := cell_lt c0
      have hJa : J (ps.take k) (wr.alloc (.cells #[strV p.1, strV p.2] 61)) := HJ.out _ _ _ none hJs.out (World.grownBy_alloc wr _ none) (fun r e => by cases e)
      have HBL := Lib.hid hblk; have HP := Lib.hid hp; have HNE := Lib.hid hne
      obtain ⟨fn, tmps, assign, body, hy, hR⟩ := hY (ps.take k) p _ hJa (by rw [List.length_take]; omega)
      clear hc hblk hp hJa hne
      unfold strV at c0 c1 hy
      unfold encP strV at hy
      gi_wp2
      refine hR.mono ?_
      rintro e W3 (⟨rfl, hJ3, hk3⟩ | ⟨rfl, hJx3⟩)
      · have HJ3 := Lib.hid hJ3; have HK3 := Lib.hid hk3; clear hJ3 hk3
        gi_wp2
        go_roundw
        case rel =>
          refine ⟨k + 1, by omega, by go_num, ?_, fun hne => ?_⟩
          · rw [List.take_add_one, HP.out]; exact HJ3.out
          · exact (HK3.out b (by simp)).trans ((Below.heap_alloc wr _ b hbw).trans HBL.out)
        case measure => simp [intOf]; omega
      · have HJX := Lib.hid hJx3; clear hJx3
        gi_wp2
        refine bodyPost_ret (results_none rfl _ _ _) rfl ?_
        refine ⟨⟨_, rfl⟩, .inr ⟨ps.take k ++ [p], ?_, HJX.out⟩⟩
        have : ps.take (k + 1) = ps.take k ++ [p] := by rw [List.take_add_one, HP.out]; rfl
        rw [← this]
        exact List.take_prefix _ _
    · obtain rfl : k = ps.length := by omega
      gi_wp2
      go_end0
      have := hJs.out
      rw [List.take_length] at this
      exact ⟨⟨_, rfl⟩, .inl ⟨_, rfl, this⟩⟩
end Go.Proofs.Ytipindjchcmckaa
