/- DERIVED. What stage.Stages answers: All, Get, Less, Made, walked. (Printed by stggetgen.py.) -/
import Derived.Test.YtaagkndhgicifaaGreatStgGet
namespace Go.Proofs.YtaagkndhgicifaaGreat
set_option maxHeartbeats 32000000
open Go.RowKit Go.Shelf
set_option linter.unusedVariables false
set_option linter.unusedSimpArgs false
set_option maxRecDepth 100000
attribute [local go_sem] Oper.semAt_some
theorem sallf_any (w : World) (v : Option Addr) :
  Calls Tryz.prog 17 #[.pointer v] w fun e w' => e = .returned (.func (.func 48) #[] #[.pointer (some ⟨w.heap.size, 0, none⟩)]) ∧ w' = w.alloc (.cells #[.pointer v] 31) := by
 go_enter Tryz.func17, Tryz.ntmps17
 go_wp2
 go_ret
 exact ⟨rfl, rfl⟩
theorem enters_sall : ∀ (args : Array Value) (w : World), (callFunc 48 args).run Tryz.prog w = .ok (.enter 48 args) w := enters_of Tryz.func48 (by kernel_rfl) rfl
def encE (x : EV) : Array Value := #[.agg (entL x).toArray]
def ExE (n0 : Nat) (x : EV) (W : World) : Prop := PRow n0 W (withV x, x.1.choice.2)
theorem rnd_keepZ {X : Nat → Obj → Prop} {Z : Zone} {n : Nat} {A B : World} (h : RndX X n A B) (hZ : ∀ b, Z b → ∀ o, ¬ X b o) : Keep Z Z A B :=
 ((CellsX.refl X A).rnd h).keepZ hZ
theorem sall_stops (n : Nat) (hn : 3 ≤ n) (w : World) (Z : Zone) (Tb : Nat) (es : List EV) (l : List Pk) (m : Int) (h : StgAt Z w Tb es l m) (C : Nat) (hC : w.heap[C]? = some (.cells #[.pointer (some ⟨Tb, 0, none⟩)] 31 (0, 0)))
  (X : Nat → Obj → Prop) (hZ : ∀ b, Z b → ∀ o, ¬ X b o) :
  StopsE n Tryz.prog 48 #[.pointer (some ⟨C, 0, none⟩)] encE X (fun ys => ys.map Prod.fst = es.map Prod.fst) (fun pre => pre.map Prod.fst <+: es.map Prod.fst) ExE w := by
 intro l0 J Jx W hW hJ hJx hY h0
 have hw := h.below hW
 obtain ⟨hz, hfew, aL, cL, al, cl, k0, k1, k2, hes, -⟩ := hw
 have hC' := cOh ((hW.block C (loh hC)).trans hC) 0
 obtain ⟨ne, hne⟩ : ∃ n, n = es.length := ⟨_, rfl⟩
 rw [← hne] at hes k0
 have hfew1 : ne ≤ 100000 := by rw [hne]; exact hfew.1
 have hn1 : 1 ≤ n := by omega
 have HES := hdL hes; have HJ := hdL hJ; have HJX := hdL hJx; have HY := hdL hY; have HZ := hdL hZ; have HNE := hdL hne; have HFEW := hdL hfew
 clear h hC hW hes hJ hJx hY hZ hne k1 k2 hz hfew
 refine callsIn_of_wp Tryz.func48 rfl trivial ?_ rfl
 simp only [Tryz.ntmps48, List.size_toArray, List.length_cons, List.length_nil, Nat.reduceAdd, Nat.reduceSub, Array.replicate_succ, Array.replicate_zero, List.push_toArray, List.append_toArray, List.nil_append, List.cons_append]
 gi_wp2
 gi_loopw [12] (fun i wr => ∃ (k : Nat) (pre : List EV), k ≤ ne ∧ i = .int .i64 k ∧ Hid (pre.map Prod.fst = (es.map Prod.fst).take k) ∧ Hid (J pre wr) ∧ Hid (EntsAt Z wr (.slice aL ne cL) es) ∧ Hid (W.heap.size ≤ wr.heap.size)) (fun i _ => ne - (intOf i).toNat)
 case atStart => exact ⟨0, [], Nat.zero_le _, rfl, hdL rfl, h0, HES, hdL (Nat.le_refl _)⟩
 case round =>
  obtain ⟨k, pre, hk, rfl, hpre, hJs, hes, hsz⟩ := hrel
  by_cases hlt : k < ne
  ·obtain ⟨x, hx⟩ : ∃ x, es[k]? = some x := ⟨_, gEg (by rw [← HNE.out]; exact hlt)⟩
   obtain ⟨b, o, S', T', rfl, hS', hT', hwx, c0, c1, c2, c3, c4, c5, c6, c7, c8, c9⟩ := hes.out.cells hx
   obtain ⟨S, T, p1, p2, p3, sg, t1, t2, t3, n9, hl⟩ := ent_let x.1
   obtain rfl : S' = S := by rw [hl.s] at hS'; injection hS' with hS'; exact hS'.symm
   obtain rfl : T' = T := by rw [hl.t] at hT'; injection hT' with hT'; exact hT'.symm
   rw [← hl.p.1] at c1; rw [← hl.p.2.1] at c2; rw [← hl.p.2.2] at c3; rw [← hl.g] at c4; rw [← hl.c.1] at c6; rw [← hl.c.2.1] at c7; rw [← hl.c.2.2] at c8; rw [← hl.n] at c9
   obtain ⟨ax, hax⟩ : ∃ y, y = x.2.1 := ⟨_, rfl⟩
   obtain ⟨cx, hcx⟩ : ∃ y, y = x.2.2 := ⟨_, rfl⟩
   rw [← hax, ← hcx] at c9
   have hcp := fun V (hV : Below wr.heap.size wr V) => copied_any V Z x.1 ax cx (by rw [hax, hcx]; exact hwx.below hV) (by have := HFEW.out.2.2 x (List.mem_of_getElem? hx); omega)
   rw [hl.arr] at hcp
   obtain ⟨Wb, hWb, hbb, hxb, y1, y2⟩ := aBk wr #[.string S', .int .i64 p1, .int .i64 p2, .int .i64 p3, .int .i64 sg, .string T', .int .i64 t1, .int .i64 t2, .int .i64 t3, .slice ax n9 cx] 45
   obtain ⟨bb, hbbe⟩ : ∃ b, wr.heap.size = b := ⟨_, rfl⟩
   rw [hbbe] at hxb
   have HCP := hdL (hcp Wb hbb); have HBB := hdL hbb; have HX := hdL hx; have HL := hdL hl
   obtain ⟨q0, q1, q2, q3, q4, q5, q6, q7, q8, q9⟩ := cells10 hxb
   clear hcp hx hl hS' hT' hwx hax hcx hbb hxb y1 y2
   gi_wp2
   refine ⟨trivial, ?_⟩
   refine ((callsIn_wide (n := n - 1)).2 HCP.out).mono ?_
   rintro e W3 ⟨a', c', rfl, hrow, h3⟩
   have hbw := HBB.out.trans (h3.mono HBB.out.size)
   have hJ3 : J pre W3 := own_below HJ.out hJs.out hbw
   have hpx : (pre ++ [(x.1, (a', c'))]).map Prod.fst <+: es.map Prod.fst := by
    rw [List.map_append, hpre.out]
    have h1 : (es.map Prod.fst).take (k + 1) = (es.map Prod.fst).take k ++ [x.1] := by rw [List.take_add_one, List.getElem?_map, HX.out]; rfl
    show _ ++ [x.1] <+: _
    rw [← h1]
    exact List.take_prefix _ _
   obtain ⟨fn, tmps, assign, body, hy, hR⟩ := HY.out pre (x.1, (a', c')) W3 hJ3 hpx (ownsC_mono hrow (Nat.le_trans hsz.out HBB.out.size))
   unfold encE at hy
   rw [HL.out.arr] at hy ⊢
   have HES3 := hdL (hes.out.below hbw); have HSZ3 := hdL (Nat.le_trans hsz.out hbw.size)
   have HRND := hdL (show RoundIn Fence.wide (n - 1) _ l0 fn tmps assign body _ _ from hR)
   have HPX := hdL hpx
   clear hrow h3 hJ3 hpx hR hbw q0 q1 q2 q3 q4 q5 q6 q7 q8 q9 c0 c1 c2 c3 c4 c5 c6 c7 c8 c9
   gi_wp2
   refine HRND.out.mono ?_
   rintro e W4 (⟨rfl, hJ4, hk4⟩ | ⟨rfl, hJ4, hk4⟩)
   ·have HJ4 := hdL hJ4; have HK4 := hdL hk4; clear hJ4 hk4
    gi_wp2
    go_roundw
    case rel =>
     refine ⟨k + 1, pre ++ [(x.1, (a', c'))], hlt, by go_num, hdL ?_, HJ4, hdL (HES3.out.keep (rnd_keepZ HK4.out HZ.out)), hdL (Nat.le_trans HSZ3.out HK4.out.size)⟩
     rw [List.map_append, hpre.out, List.take_add_one, List.getElem?_map, HX.out]
     rfl
    case measure => simp [intOf]; omega
   ·have HJX4 := hdL hJ4; clear hJ4 hk4
    gi_wp2
    refine bodyPost_ret (results_none rfl _ _ _) rfl ?_
    exact ⟨⟨_, rfl⟩, .inr ⟨_, HPX.out, HJX4.out⟩⟩
  ·obtain rfl : k = ne := by omega
   gi_wp2
   go_end0
   refine ⟨⟨_, rfl⟩, .inl ⟨_, ?_, hJs.out⟩⟩
   rw [hpre.out, tLe (by rw [List.length_map, ← HNE.out]; exact Nat.le_refl _)]
theorem sall_nil (n : Nat) (hn : 1 ≤ n) (w : World) (C : Nat) (hC : w.heap[C]? = some (.cells #[.pointer none] 31 (0, 0))) (X : Nat → Obj → Prop) :
  StopsE n Tryz.prog 48 #[.pointer (some ⟨C, 0, none⟩)] encE X (fun ys => ys = []) (fun pre => pre <+: []) ExE w := by
 intro l0 J Jx W hW hJ hJx hY h0
 have hC' := cOh ((hW.block C (loh hC)).trans hC) 0
 have H0 := hdL h0
 clear hC hW hJ hJx hY h0
 refine callsIn_of_wp Tryz.func48 rfl trivial ?_ rfl
 simp only [Tryz.ntmps48, List.size_toArray, List.length_cons, List.length_nil, Nat.reduceAdd, Nat.reduceSub, Array.replicate_succ, Array.replicate_zero, List.push_toArray, List.append_toArray, List.nil_append, List.cons_append]
 gi_wp2
 refine bodyPost_ret (results_none rfl _ _ _) rfl ?_
 exact ⟨⟨_, rfl⟩, .inl ⟨_, rfl, H0.out⟩⟩
theorem sless_nil (w : World) : Calls Tryz.prog 21 #[.pointer none] w (fun e w' => e = .returned (.slice none 0 0) ∧ w = w') := by
 go_enter Tryz.func21, Tryz.ntmps21
 go_wp2
 go_ret
 exact ⟨rfl, rfl⟩
theorem smade_any (w : World) (Z : Zone) (Tb : Nat) (es : List EV) (l : List Pk) (m : Int) (h : StgAt Z w Tb es l m) : Calls Tryz.prog 35 #[.pointer (some ⟨Tb, 0, none⟩)] w (fun e w' => e = .returned (.int .i64 m) ∧ w = w') := by
 obtain ⟨hz, hfew, aL, cL, al, cl, k0, k1, k2, -, hl⟩ := h
 clear hz hfew k0 k2 hl
 go_enter Tryz.func35, Tryz.ntmps35
 go_wp2
 go_ret
 exact ⟨rfl, rfl⟩
theorem smade_nil (w : World) : Calls Tryz.prog 35 #[.pointer none] w (fun e w' => e = .returned (.int .i64 0) ∧ w = w') := by
 go_enter Tryz.func35, Tryz.ntmps35
 go_wp2
 go_ret
 exact ⟨rfl, rfl⟩
end Go.Proofs.YtaagkndhgicifaaGreat
