/- DERIVED. view.Outside: what it gives; its iterator. -/
import Derived.RangeFuncNested
import Derived.RangeFuncBound
import Derived.RangeFuncCalls
import Derived.RangeFuncLeaves
import Derived.Shelf.Abstract
import Derived.Shelf.RegionOpen
import Derived.OwnWalkIn
import Derived.TacticsInMore
import Derived.LoopNIn
import Derived.LoopIn
import Derived.Test.YtknokfhmkhdieaaDoorViewAlive
namespace Go.Proofs.YtknokfhmkhdieaaDoor
open Go.RowKit Go.Shelf
set_option linter.unusedVariables false

/-- Whether a path stands under one of some places. -/
def inB (dirs : List (List UInt8)) (p : List UInt8) : Bool := dirs.any (fun d => (underP d p).2)
def outP (dirs : List (List UInt8)) (t : List Pr) : List (List UInt8) := (t.filter (fun f => !inB dirs f.1)).map Prod.fst
theorem outP_next {dirs : List (List UInt8)} {t : List Pr} {k : Nat} {f : Pr} (h : t[k]? = some f) : outP dirs (t.take (k + 1)) = outP dirs (t.take k) ++ (if inB dirs f.1 = false then [f.1] else []) := by
  unfold outP
  rw [List.take_add_one, h, List.filter_append, List.map_append]
  congr 1
  show ([f].filter _).map _ = _
  rw [List.filter_cons]
  cases inB dirs f.1 <;> simp
theorem outP_pre (dirs : List (List UInt8)) (t : List Pr) (k : Nat) : outP dirs (t.take k) <+: outP dirs t := by
  unfold outP
  conv => rhs; rw [← List.take_append_drop k t]
  rw [List.filter_append, List.map_append]
  exact List.prefix_append _ _
set_option maxHeartbeats 1000000 in
theorem out1_any (D : ByteArray) (p : List UInt8) (B : Nat) (w : World) (hc : w.cell? ⟨B, 0, none⟩ = some (strV p)) (hD : D.size ≤ 400000) (hp : p.length ≤ 400000) :
    Calls Tryd.prog 30 #[.string D, .pointer (some ⟨B, 0, none⟩)] w (fun e w' => e = .returned (.bool (underP D.data.toList p).2) ∧ Below w.heap.size w w') := by
  have hU := under_any D ⟨p.toArray⟩ w hD (by rw [str_size]; exact hp)
  dsimp only at hU
  obtain ⟨P, hP⟩ : ∃ P : ByteArray, P = ⟨p.toArray⟩ := ⟨_, rfl⟩
  unfold strV at hc
  rw [← hP] at hU hc
  obtain ⟨u, hu⟩ : ∃ u, u = underP D.data.toList p := ⟨_, rfl⟩
  rw [← hu] at hU ⊢
  obtain ⟨u1, u2⟩ := u
  dsimp only at hU ⊢
  unfold strV at hU
  obtain ⟨U, hU1⟩ : ∃ U : ByteArray, U = ⟨u1.toArray⟩ := ⟨_, rfl⟩
  rw [← hU1] at hU
  have HU := Lib.hid hU
  clear hU hu hU1 hP
  go_enter Tryd.func30, Tryd.ntmps30
  go_wp2_with fail
  refine HU.out.mono ?_
  rintro e w1 ⟨rfl, h1⟩
  have H1 := Lib.hid h1; clear h1
  go_wp2_with fail
  go_ret
  exact ⟨rfl, H1.out⟩
def AnyS (P : List UInt8 → Bool) (ps : List (List UInt8)) (w : World) (e : Ending) (w' : World) : Prop := ∃ n : Int, e = .returned (.int .i64 n) ∧ (0 ≤ n ↔ ps.any P = true) ∧ -1 ≤ n ∧ Below w.heap.size w w'
set_option maxHeartbeats 1000000 in
theorem didx_any (a : Option Addr) (c : Nat) (ds : List (List UInt8)) (f : List UInt8) (B : Nat) (w : World) (hr : RdStrs w a ds) (hn : ds.length ≤ 1000000) (hc : w.cell? ⟨B, 0, none⟩ = some (strV f)) (hf : f.length ≤ 400000) (hds : ∀ p ∈ ds, p.length ≤ 400000) :
    Calls Tryd.prog 50 #[.slice a ds.length c, .func (.func 30) #[] #[.pointer (some ⟨B, 0, none⟩)]] w (AnyS (fun d => (underP d f).2) ds w) := by
  obtain ⟨n, hnn⟩ : ∃ n, n = ds.length := ⟨_, rfl⟩
  rw [← hnn] at hn ⊢
  have HR := Lib.hid hr; have HN := Lib.hid hnn; have HP := Lib.hid hds; have HC := Lib.hid hc
  clear hr hnn hds hc
  go_enter Tryd.func50, Tryd.ntmps50
  go_wp2
  go_loopw [8] (fun x wr => ∃ k : Nat, k ≤ n ∧ x = .int .i64 k ∧ Hid (Below w.heap.size w wr) ∧ Hid ((ds.take k).any (fun d => (underP d f).2) = false)) (fun x _ => n - (intOf x).toNat)
  case atStart => exact ⟨0, Nat.zero_le _, rfl, Below.refl _ w, rfl⟩
  case round =>
    obtain ⟨k, hk, rfl, hbw, hall⟩ := hrel
    by_cases hlt : k < n
    · obtain ⟨p, hp⟩ : ∃ p, ds[k]? = some p := ⟨_, List.getElem?_eq_getElem (by rw [← HN.out]; exact hlt)⟩
      obtain ⟨b, o, rfl, hcs⟩ := HR.out.below hbw.out (fun e => by rw [e] at hp; cases hp)
      have hc0 := hcs k p hp
      have hpl := HP.out p (List.mem_of_getElem? hp)
      have hG := out1_any ⟨p.toArray⟩ f B wr (below_keeps hbw.out _ _ HC.out) (by rw [str_size]; exact hpl) hf
      dsimp only at hG
      obtain ⟨S, hS⟩ : ∃ S : ByteArray, S = ⟨p.toArray⟩ := ⟨_, rfl⟩
      rw [← hS] at hG hc0
      have hPN : (underP p f).2 = true ∨ (underP p f).2 = false := by cases (underP p f).2 <;> simp
      have HP0 := Lib.hid hp
      clear hcs hp hS hpl
      rcases hPN with hb | hb
      · rw [hb] at hG
        have HG := Lib.hid hG; have HB := Lib.hid hb
        clear hG hb
        go_wp2_with fail
        refine HG.out.mono ?_
        rintro e w' ⟨rfl, h2⟩
        have H2 := Lib.hid (hbw.out.trans (h2.mono hbw.out.size)); clear h2
        go_wp2
        go_ret
        exact ⟨k, rfl, ⟨fun _ => any_here HP0.out HB.out, fun _ => by omega⟩, by omega, H2.out⟩
      · rw [hb] at hG
        have HG := Lib.hid hG; have HB := Lib.hid hb
        clear hG hb
        go_wp2_with fail
        refine HG.out.mono ?_
        rintro e w' ⟨rfl, h2⟩
        have H2 := Lib.hid (hbw.out.trans (h2.mono hbw.out.size)); clear h2
        go_wp2
        go_roundw
        case rel => exact ⟨k + 1, hlt, by go_num, H2, any_next hall.out HP0.out HB.out⟩
        case measure => simp [intOf]; omega
    · have ha : ds.any (fun d => (underP d f).2) = false := by
        have := hall.out
        rwa [List.take_of_length_le (by rw [← HN.out]; omega)] at this
      have HA := Lib.hid ha; clear ha
      go_wp2
      go_ret
      exact ⟨-1, rfl, ⟨fun h => by omega, fun h => by rw [HA.out] at h; cases h⟩, by omega, hbw.out⟩
set_option maxHeartbeats 1000000 in
theorem dcont_any (a : Option Addr) (c : Nat) (ds : List (List UInt8)) (f : List UInt8) (B : Nat) (w : World) (hr : RdStrs w a ds) (hn : ds.length ≤ 1000000) (hc : w.cell? ⟨B, 0, none⟩ = some (strV f)) (hf : f.length ≤ 400000) (hds : ∀ p ∈ ds, p.length ≤ 400000) :
    Calls Tryd.prog 29 #[.slice a ds.length c, .func (.func 30) #[] #[.pointer (some ⟨B, 0, none⟩)]] w (fun e w' => e = .returned (.bool (inB ds f)) ∧ Below w.heap.size w w') := by
  have hG := didx_any a c ds f B w hr hn hc hf hds
  obtain ⟨n, hnn⟩ : ∃ n, n = ds.length := ⟨_, rfl⟩
  obtain ⟨R, hR⟩ : ∃ R, R = inB ds f := ⟨_, rfl⟩
  unfold AnyS at hG
  rw [show ds.any (fun d => (underP d f).2) = inB ds f from rfl] at hG
  rw [← hnn, ← hR] at hG ⊢
  have HG := Lib.hid hG; clear hG hr hn hds hnn hc hR
  go_enter Tryd.func29, Tryd.ntmps29
  go_wp2_with fail
  refine HG.out.mono ?_
  rintro e w' ⟨n, rfl, h1, h2, h3⟩
  have H1 := Lib.hid h1; have H3 := Lib.hid h3; clear h1 h3
  cases R
  · have hn : n < 0 := by
      rcases Int.lt_or_le n 0 with h | h
      · exact h
      · have := H1.out.1 h; cases this
    obtain rfl : n = -1 := by omega
    go_wp2
    go_ret
    exact ⟨rfl, H3.out⟩
  · have hn : 0 ≤ n := H1.out.2 rfl
    go_wp2
    go_ret
    exact ⟨rfl, H3.out⟩
attribute [local go_sem] Oper.semAt_some
def encS (s : List UInt8) : Array Value := #[strV s]
/-- What the iterator asks of a round: what it reads stays. -/
def KpO (n0 C : Nat) (W W' : World) : Prop := Below n0 W W' ∧ W'.heap[C]? = W.heap[C]?
theorem KpO.trans {n0 C : Nat} {A B D : World} (h : KpO n0 C A B) (k : KpO n0 C B D) : KpO n0 C A D := ⟨h.1.trans k.1, k.2.trans h.2⟩
theorem kpO_b {n0 C : Nat} {w : World} (hn : n0 ≤ w.heap.size) (hC : C < w.heap.size) (W : World) (l : Nat) (o o' : Obj) (hl : w.heap.size ≤ l) (h : W.heap[l]? = some o) (h1 : o.isCells = false) (h2 : o.isWalk = false) : KpO n0 C W (W.putObj l o') :=
  ⟨belowK_b hn W l o o' hl h h1 h2, World.putObj_heap_other (by omega)⟩
set_option maxRecDepth 100000 in
set_option maxHeartbeats 4000000 in
theorem out_stops (n C1 C2 : Nat) (a a' : Option Addr) (c c' : Nat) (t : List Pr) (ds : List (List UInt8)) (w0 w : World) (hn : 1 ≤ n) (h1 : w.heap[C1]? = some (.cells #[.slice a t.length c] 27 (0, 0))) (h2 : w.heap[C2]? = some (.cells #[.slice a' ds.length c'] 34 (0, 0)))
    (hr : RdFl w0 a t) (hd : RdStrs w0 a' ds) (hb0 : Below w0.heap.size w0 w) (hl : t.length ≤ 1000000) (hdl : ds.length ≤ 1000000) (ht : ∀ p ∈ t, p.1.length ≤ 400000) (hds : ∀ p ∈ ds, p.length ≤ 400000) (hC : C1 < w.heap.size ∧ C2 < w.heap.size) :
    SeqStopsK Fence.wide n Tryd.prog 28 #[.pointer (some ⟨C1, 0, none⟩), .pointer (some ⟨C2, 0, none⟩)] encS (KpO w0.heap.size C2) (fun ys => ys = outP ds t) (fun pre => pre <+: outP ds t) (outP ds t).length w := by
  intro l J Jx W hW hJ hJx hY h0
  obtain ⟨m, hm⟩ : ∃ m, m = t.length := ⟨_, rfl⟩
  rw [← hm] at h1
  have c0 := cell_of_heap ((hW.block _ hC.1).trans h1) 0
  have h2W := (hW.block _ hC.2).trans h2
  have HC2 := Lib.hid h2W
  have HR := Lib.hid hr; have HD := Lib.hid hd; have HM := Lib.hid hm; have HW := Lib.hid (hb0.trans (hW.mono hb0.size)); have HJ := Lib.hid hJ; have HB0 := Lib.hid hb0; have HT := Lib.hid ht; have HDS := Lib.hid hds
  have hml : m ≤ 1000000 := by omega
  clear h1 h2 hr hd hm hW hJ hJx hb0 ht hds h2W hl
  refine callsIn_of_wp Tryd.func28 rfl trivial ?_ rfl
  simp only [Tryd.ntmps28, List.size_toArray, List.length_cons, List.length_nil, Nat.reduceAdd, Nat.reduceSub, Array.replicate_succ, Array.replicate_zero, List.push_toArray, List.append_toArray, List.nil_append, List.cons_append]
  gi_wp2
  clear c0
  gi_loopw [10] (fun i wr => ∃ k : Nat, k ≤ m ∧ i = .int .i64 k ∧ Hid (J (outP ds (t.take k)) wr) ∧ Hid (Below w0.heap.size w0 wr) ∧ Hid (wr.heap[C2]? = some (.cells #[.slice a' ds.length c'] 34 (0, 0)))) (fun i _ => m - (intOf i).toNat)
  case atStart => exact ⟨0, Nat.zero_le _, rfl, h0, HW.out, HC2.out⟩
  case round =>
    obtain ⟨k, hk, rfl, hJs, hbw, hcw⟩ := hrel
    by_cases hlt : k < m
    · obtain ⟨p, hp⟩ : ∃ p, t[k]? = some p := ⟨_, List.getElem?_eq_getElem (by rw [← HM.out]; exact hlt)⟩
      have hb0r := hbw.out
      obtain ⟨rb, o, rfl, _, hcs⟩ := HR.out.below hb0r (fun e => by rw [e] at hp; cases hp)
      obtain ⟨p0, p1⟩ := hcs k p hp
      obtain ⟨S1, hS1⟩ : ∃ S : ByteArray, strV p.1 = .string S := ⟨_, rfl⟩
      obtain ⟨S2, hS2⟩ : ∃ S : ByteArray, strV p.2 = .string S := ⟨_, rfl⟩
      rw [hS1] at p0; rw [hS2] at p1
      obtain ⟨w6, hw6, hb6, hfx, hz7, hz8⟩ := new_two wr (.string S1) (.string S2) 47
      have hJ6 : J (outP ds (t.take k)) w6 := by rw [← hw6]; exact HJ.out _ _ _ none hJs.out (World.grownBy_alloc wr _ none) (fun r e => by cases e)
      have hb06 := hb0r.trans (hb6.mono hb0r.size)
      have hC := dcont_any a' c' ds p.1 wr.heap.size w6 (HD.out.below hb06) hdl (by rw [hS1]; exact cell_of_heap hfx 0) (HT.out p (List.mem_of_getElem? hp)) HDS.out
      have hbw6 := hb06
      have hcw6 := (hb6.block _ (lt_of_heap hcw.out)).trans hcw.out
      have c1 := cell_of_heap hcw6 0
      have hnx := outP_next (dirs := ds) hp
      have HFX := Lib.hid hfx; have HBW6 := Lib.hid hbw6; have HCW6 := Lib.hid hcw6; have HP := Lib.hid hp; have HS1 := Lib.hid hS1; have HJ6 := Lib.hid hJ6
      cases hin : inB ds p.1
      · rw [hin] at hC hnx
        rw [if_pos rfl] at hnx
        have HC := Lib.hid ((callsIn_wide (n := n - 1)).2 hC); have HNX := Lib.hid hnx
        clear hcs hp hb0r hb6 hfx hz7 hz8 hJ6 hb06 hC hbw6 hcw6 hnx hS1 hS2 hin
        gi_wp2
        refine ⟨trivial, ?_⟩
        refine HC.out.mono ?_
        rintro e w7 ⟨rfl, h7⟩
        have hJ7 : J (outP ds (t.take k)) w7 := HJ.out _ _ _ none HJ6.out ⟨h7.os, h7.tape, h7.output, h7.size, fun x hx _ => h7.block x hx⟩ (fun r e => by cases e)
        have hpre := outP_pre ds t (k + 1)
        rw [HNX.out] at hpre
        obtain ⟨fn, tmps, assign, body, hy, hR⟩ := hY (outP ds (t.take k)) p.1 w7 hJ7 (by have := hpre.length_le; simp at this; omega)
        unfold encS at hy
        rw [show strV p.1 = .string S1 from HS1.out] at hy
        have q0 := cell_of_heap ((h7.block _ (lt_of_heap HFX.out)).trans HFX.out) 0
        have HBW7 := Lib.hid (HBW6.out.trans (h7.mono HBW6.out.size)); have HCW7 := Lib.hid ((h7.block _ (lt_of_heap HCW6.out)).trans HCW6.out); have HR2 := Lib.hid hR; have HPRE := Lib.hid hpre
        clear h7 hJ7 hR hpre c1
        gi_wp2
        refine HR2.out.mono ?_
        rintro e W3 (⟨rfl, hJ3, hk3⟩ | ⟨rfl, hJx3⟩)
        · have HJ3 := Lib.hid (show J (outP ds (t.take (k + 1))) W3 by rw [HNX.out]; exact hJ3); have HB3 := Lib.hid (HBW7.out.trans hk3.1); have HC3 := Lib.hid (hk3.2.trans HCW7.out); clear hJ3 hk3
          gi_wp2
          go_roundw
          case rel => exact ⟨k + 1, hlt, by go_num, HJ3, HB3, HC3⟩
          case measure => simp [intOf]; omega
        · have HJX := Lib.hid hJx3; clear hJx3
          gi_wp2
          refine bodyPost_ret (results_none rfl _ _ _) rfl ?_
          exact ⟨⟨_, rfl⟩, .inr ⟨outP ds (t.take k) ++ [p.1], HPRE.out, HJX.out⟩⟩
      · rw [hin] at hC hnx
        rw [if_neg (by simp), List.append_nil] at hnx
        have HC := Lib.hid ((callsIn_wide (n := n - 1)).2 hC); have HNX := Lib.hid hnx
        clear hcs hp hb0r hb6 hfx hz7 hz8 hJ6 hb06 hC hbw6 hcw6 hnx hS1 hS2 hin
        gi_wp2
        refine ⟨trivial, ?_⟩
        refine HC.out.mono ?_
        rintro e w7 ⟨rfl, h7⟩
        have HJ7 := Lib.hid (show J (outP ds (t.take (k + 1))) w7 by rw [HNX.out]; exact HJ.out _ _ _ none HJ6.out ⟨h7.os, h7.tape, h7.output, h7.size, fun x hx _ => h7.block x hx⟩ (fun r e => by cases e))
        have HBW7 := Lib.hid (HBW6.out.trans (h7.mono HBW6.out.size)); have HCW7 := Lib.hid ((h7.block _ (lt_of_heap HCW6.out)).trans HCW6.out)
        clear h7 c1
        gi_wp2
        refine ⟨(fun f hf => by cases hf), ?_⟩
        gi_wp2
        go_roundw
        case rel => exact ⟨k + 1, hlt, by go_num, HJ7, HBW7, HCW7⟩
        case measure => simp [intOf]; omega
    · obtain rfl : k = m := by omega
      gi_wp2
      go_end0
      have := hJs.out
      rw [List.take_of_length_le (by rw [← HM.out]; exact Nat.le_refl _)] at this
      exact ⟨⟨_, rfl⟩, .inl ⟨_, rfl, this⟩⟩
end Go.Proofs.YtknokfhmkhdieaaDoor
