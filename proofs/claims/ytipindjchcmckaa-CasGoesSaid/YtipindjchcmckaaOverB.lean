/- DERIVED. The iterator over pairs of texts, each with its mark. -/
import Derived.Test.YtipindjchcmckaaOver
namespace Go.Proofs.Ytipindjchcmckaa
open Go.RowKit Go.Shelf
set_option linter.unusedVariables false
attribute [local go_sem] Oper.semAt_some

theorem over_stops_of {α : Type} (val : α → Pr) (xs : List α) (n C g : Nat) (c : Nat) (a : Option Addr) (ps : List Pr) (w : World) (hn : 1 ≤ n) (hl : ps.length ≤ 1000000) (hC : w.heap[C]? = some (.cells #[.slice a ps.length c] 55 (0, 0))) (hr : RdPairs w a ps) (hg : ∀ b, a = some ⟨b, 0, none⟩ → b = g) (hxs : xs.map val = ps) :
    SeqStopsK Fence.wide n Try.prog 43 #[.pointer (some ⟨C, 0, none⟩)] (fun x => encP (val x)) (KpS [g]) (fun ys => ys = xs) (fun pre => pre <+: xs) ps.length w := by
  have hxl : xs.length = ps.length := by rw [← hxs, List.length_map]
  intro l J Jx W hW hJ hJx hY h0
  have hC' := cell_of_heap ((hW.block C (lt_of_heap hC)).trans hC) 0
  have HXS := Lib.hid hxs
  have HR := Lib.hid (hr.below hW); have HJ := Lib.hid hJ; have HG := Lib.hid hg
  clear hC hr hW hJ hJx hg
  refine callsIn_of_wp Try.func43 rfl trivial ?_ rfl
  simp only [Try.ntmps43, List.size_toArray, List.length_cons, List.length_nil, Nat.reduceAdd, Nat.reduceSub, Array.replicate_succ, Array.replicate_zero, List.push_toArray, List.append_toArray, List.nil_append, List.cons_append]
  gi_wp2
  gi_loopw [7] (fun i wr => ∃ k : Nat, k ≤ ps.length ∧ i = .int .i64 k ∧ Hid (J (xs.take k) wr) ∧ Hid (ps ≠ [] → wr.heap[g]? = W.heap[g]?)) (fun i _ => ps.length - (intOf i).toNat)
  case atStart => exact ⟨0, Nat.zero_le _, rfl, h0, fun _ => rfl⟩
  case round =>
    obtain ⟨k, hk, rfl, hJs, hnx⟩ := hrel
    by_cases hlt : k < ps.length
    · have hne : ps ≠ [] := by intro e; rw [e] at hlt; exact absurd hlt (Nat.not_lt_zero _)
      obtain ⟨b, rfl, hb, hc⟩ := HR.out hne
      obtain rfl := HG.out b rfl
      obtain ⟨x, hx⟩ : ∃ x, xs[k]? = some x := ⟨_, List.getElem?_eq_getElem (by rw [hxl]; exact hlt)⟩
      obtain ⟨p, hpx⟩ : ∃ p, p = val x := ⟨_, rfl⟩
      have hp : ps[k]? = some p := by rw [← hxs, List.getElem?_map, hx, hpx]; rfl
      have HX := Lib.hid hx; have HPX := Lib.hid hpx
      have hblk := hnx.out hne
      have c0 : wr.cell? ⟨b, k * 2, none⟩ = some (strV p.1) := (World.cell?_of_block (a := ⟨b, k * 2, none⟩) hblk).trans (hc k p hp).1
      have c1 : wr.cell? ⟨b, k * 2 + 1, none⟩ = some (strV p.2) := (World.cell?_of_block (a := ⟨b, k * 2 + 1, none⟩) hblk).trans (hc k p hp).2
      have hbw : b < wr.heap.size := cell_lt c0
      have hJa : J (xs.take k) (wr.alloc (.cells #[strV p.1, strV p.2] 61)) := HJ.out _ _ _ none hJs.out (World.grownBy_alloc wr _ none) (fun r e => by cases e)
      have HBL := Lib.hid hblk; have HP := Lib.hid hp; have HNE := Lib.hid hne
      obtain ⟨fn, tmps, assign, body, hy, hR⟩ := hY (xs.take k) x _ hJa (by rw [List.length_take]; omega)
      rw [← HPX.out] at hy
      clear hc hblk hp hJa hne hx hpx
      unfold strV at c0 c1 hy
      unfold encP strV at hy
      gi_wp2
      refine hR.mono ?_
      rintro e W3 (⟨rfl, hJ3, hk3⟩ | ⟨rfl, hJx3⟩)
      · have HJ3 := Lib.hid hJ3; have HK3 := Lib.hid hk3; clear hJ3 hk3
        gi_wp2
        go_roundw
        case rel =>
          refine ⟨k + 1, by omega, by go_num, ?_, fun hne => ?_⟩
          · rw [List.take_add_one, HX.out]; exact HJ3.out
          · exact (HK3.out b (by simp)).trans ((Below.heap_alloc wr _ b hbw).trans HBL.out)
        case measure => simp [intOf]; omega
      · have HJX := Lib.hid hJx3; clear hJx3
        gi_wp2
        refine bodyPost_ret (results_none rfl _ _ _) rfl ?_
        refine ⟨⟨_, rfl⟩, .inr ⟨xs.take k ++ [x], ?_, HJX.out⟩⟩
        have : xs.take (k + 1) = xs.take k ++ [x] := by rw [List.take_add_one, HX.out]; rfl
        rw [← this]
        exact List.take_prefix _ _
    · obtain rfl : k = ps.length := by omega
      gi_wp2
      go_end0
      have := hJs.out
      rw [← hxl, List.take_length] at this
      exact ⟨⟨_, rfl⟩, .inl ⟨_, rfl, this⟩⟩
end Go.Proofs.Ytipindjchcmckaa
