/- DERIVED. The law TreeReads, walked. -/
import Derived.Test.YtjcimajkjnjdpaaGreatDoorNamesRef
import Derived.Test.YtjcimajkjnjdpaaGreatDoorTreeGreat
import Derived.Test.YtjcimajkjnjdpaaGreatDoorTreeRefGood
import Derived.Test.YtjcimajkjnjdpaaGreatDoorTreeArgT
import Derived.Test.YtjcimajkjnjdpaaGreatDoorTreeTab
namespace Go.Proofs.YtjcimajkjnjdpaaGreatDoor
open Go.RowKit Go.Shelf Go.ChangeShapes Go.WideShapes
set_option linter.unusedVariables false
attribute [local go_sem] Oper.semAt_some

theorem calls_of_wp_marks {P : Program} {f : FuncId} {fn : Func} {c : Code} {args : Array Value} {w : World} {R : Ending → World → Prop} (hf : P.funcs[f]? = some fn) (hb : fn.body = some c)
    (h : c.wp P (bodyPostM Fence.wide 3 P fn R) { tmps := args ++ Array.replicate (fn.ntmps - args.size) undef, defers := [] } w) : Calls P f args w R :=
  (callsIn_wide (n := 3)).1 (callsIn_of_wp_marks hf hb trivial (wpIn_wide.2 h) rfl)
theorem marks_ret0 {P : Program} {fn : Func} {R : Ending → World → Prop} {a : Act} {w : World} {v : Value} (h : (results fn a.tmps).run P w = .ok v w) (hd : a.defers = []) (hR : R (.returned v) w) : bodyPostM Fence.wide 3 P fn R .ret a w := by
  show LeavesInM _ _ _ _ _ _ a.defers .returning w
  rw [hd]
  exact ⟨v, h, hR⟩
theorem marks_ret1 {P : Program} {fn : Func} {R : Ending → World → Prop} {a : Act} {w : World} {v : Value} {D : Nat} (hd : a.defers = [{ target := .collected D, args := #[] }]) (hK : w.heap[D]? = some (.deferred (some [])))
    (h : (results fn a.tmps).run P (w.putObj D (.deferred none)) = .ok v (w.putObj D (.deferred none))) (hR : R (.returned v) (w.putObj D (.deferred none))) : bodyPostM Fence.wide 3 P fn R .ret a w := by
  show LeavesInM _ _ _ _ _ _ a.defers .returning w
  rw [hd]
  exact ⟨by simp, .inl ⟨D, _, rfl, run_takeDeferred hK, v, h, hR⟩⟩
theorem enters_names : ∀ args w, (callFunc 41 args).run Tryz.prog w = .ok (.enter 41 args) w := enters_of Tryz.func41 (by kernel_rfl) rfl
theorem one_cell {w : World} {R : Nat} {u : Value} {T : TypeId} (x : Value) (h : w.heap[R]? = some (.cells #[u] T (0, 0))) : (w.setCell ⟨R, 0, none⟩ x).cell? ⟨R, 0, none⟩ = some x := cell_of_heap (heap_setCell_here (i := 0) x h) 0
/-- What holds between two rounds. -/
def OutI (w9 : World) (Bi : Nat) (wl xs : List (List UInt8)) (W : World) : Prop :=
  xs <+: wl ∧ W.heap[Bi]? = some (.cells #[.int .i64 xs.length] 3 (0, 0)) ∧ Ch [Bi] w9 W
/-- What a round leaves that stops. -/
def OutX (w9 : World) (Bi : Nat) (most : Int) (wl : List (List UInt8)) (c : Code) (xs : List (List UInt8)) (W : World) : Prop :=
  ¬ xs <+: wl ∨ (c = .exit 0 ∧ (xs.length : Int) = most ∧ W.heap[Bi]? = some (.cells #[.int .i64 xs.length] 3 (0, 0)) ∧ Ch [Bi] w9 W)
theorem ch_own {Bi B : Nat} {w6 W W' : World} {row : Option Nat} (h : Ch [Bi] w6 W) (hg : W.grownBy W' row) (hB : w6.heap.size ≤ B) (hr : ∀ r, row = some r → B ≤ r ∧ ∃ o : Obj, W.heap[r]? = some o ∧ o.isCells = false) : Ch [Bi] w6 W' :=
  h.grown hg (fun k e => .inr (by have := (hr k e).1; omega))
theorem outI_own {w9 : World} {Bi : Nat} {wl : List (List UInt8)} (h : Bi < w9.heap.size) : OwnFrom w9.heap.size (OutI w9 Bi wl) := by
  rintro s W W' row ⟨h1, h3, h4⟩ hg hr
  refine ⟨h1, ?_, ch_own h4 hg (Nat.le_refl _) hr⟩
  rw [hg.block Bi (lt_of_heap h3) (fun e => by have := (hr Bi e.symm).1; omega)]
  exact h3
theorem outX_own {w9 : World} {Bi : Nat} {most : Int} {wl : List (List UInt8)} (h : Bi < w9.heap.size) (c : Code) : OwnFrom w9.heap.size (OutX w9 Bi most wl c) := by
  rintro s W W' row (h0 | ⟨h1, h2, h3, h4⟩) hg hr
  · exact .inl h0
  refine .inr ⟨h1, h2, ?_, ch_own h4 hg (Nat.le_refl _) hr⟩
  rw [hg.block Bi (lt_of_heap h3) (fun e => by have := (hr Bi e.symm).1; omega)]
  exact h3
theorem kpC_set {Bi : Nat} (W : World) (v : Value) : KpC Bi W (W.setCell ⟨Bi, 0, none⟩ v) :=
  ⟨rfl, rfl, rfl, by simp [World.setCell], fun k o hk _ h => (Below.heap_setCell _ _ _ _ (by simpa using hk)).trans h⟩
set_option maxRecDepth 100000 in
set_option maxHeartbeats 16000000 in
theorem reads_law (w : World) (a : Option Addr) (c : Nat) (t : List Pr) (P : ByteArray) (most : Int) (hr : RdFl w a t) (hs : Sl a t.length c) (hsz : Sz t) (hP : P.size ≤ 140737488351232) (htab : Tab w) :
    Calls Tryz.prog 4 #[.agg #[.slice a t.length c], .string P, .int .i64 most] w (fun e w' => e = .returned (.bool true) ∧ Below w.heap.size w w') := by
  obtain ⟨m, hm⟩ : ∃ m, m = t.length := ⟨_, rfl⟩
  obtain ⟨w1, hw1, hb1, hx1, y1, y2⟩ := new_cell w (.slice a m c) 26
  obtain ⟨w2, hw2, hb2, hx2, y3, y4⟩ := new_cell w1 (.int .i64 most) 3
  obtain ⟨w3, hw3, hb3, hx3, y5, y6⟩ := new_cell w2 (.bool false) 4
  obtain ⟨Bt, hbt⟩ : ∃ b, w.heap.size = b := ⟨_, rfl⟩
  obtain ⟨Bm, hbm⟩ : ∃ b, w1.heap.size = b := ⟨_, rfl⟩
  obtain ⟨Br, hbr⟩ : ∃ b, w2.heap.size = b := ⟨_, rfl⟩
  have hb23 := hb2.trans (hb3.mono hb2.size)
  have hb13 := hb1.trans (hb23.mono hb1.size)
  have hx13 := (hb23.block _ (by omega)).trans hx1
  have hx23 := (hb3.block _ (by omega)).trans hx2
  have hsizes : w.heap.size = Bt ∧ Bm = Bt + 1 ∧ Br = Bt + 2 ∧ w3.heap.size = Bt + 3 := by omega
  rw [hbt] at hx13; rw [hbm] at hx23; rw [hbr] at hx3
  have hkeep : ∀ W, Below w3.heap.size w3 W → W.heap[Bt]? = some (.cells #[.slice a m c] 26 (0, 0)) ∧ W.heap[Bm]? = some (.cells #[.int .i64 most] 3 (0, 0)) ∧ W.heap[Br]? = some (.cells #[.bool false] 4 (0, 0)) := fun W h =>
    ⟨(h.block _ (by omega)).trans hx13, (h.block _ (by omega)).trans hx23, (h.block _ (by omega)).trans hx3⟩
  have hG := fun W (h : Below w.heap.size w W) => great_any W a c t (hr.below h) hsz
  rw [← hm] at hG
  have hPV : strV P.data.toList = .string P := by unfold strV; cases P; simp
  have HB13 := Lib.hid hb13; have HKEEP := Lib.hid hkeep; have HG := Lib.hid hG; have HR := Lib.hid hr; have HS := Lib.hid hs; have HM := Lib.hid hm; have HSZ := Lib.hid hsizes; have HPV := Lib.hid hPV; have HT := Lib.hid htab
  have k1 := cell_of_heap (hkeep w3 (Below.refl _ _)).1 0
  rw [← hm]
  clear hb1 hb2 hb3 hx1 hx2 hx3 y1 y2 y3 y4 y5 y6 hb23 hb13 hx13 hx23 hkeep hG hr hs hsz hm hsizes hPV htab
  refine calls_of_wp_marks Tryz.func4 rfl ?_
  simp only [Tryz.ntmps4, List.size_toArray, List.length_cons, List.length_nil, Nat.reduceAdd, Nat.reduceSub, Array.replicate_succ, Array.replicate_zero, List.push_toArray, List.append_toArray, List.nil_append, List.cons_append]
  go_wp2_with fail
  refine (alive_any _ (HT.out.below HB13.out)).mono ?_
  rintro e w4 ⟨rfl, h4⟩
  have k1 := cell_of_heap (HKEEP.out w4 h4).1 0
  have H4 := Lib.hid h4
  clear h4
  go_wp2_with fail
  refine (HG.out w4 (HB13.out.trans (H4.out.mono HB13.out.size))).mono ?_
  rintro e w5 ⟨b, rfl, hsm, h5⟩
  have H5 := Lib.hid (H4.out.trans (h5.mono H4.out.size)); have HSM := Lib.hid hsm
  clear h5 hsm k1
  have hret : ∀ W, Below w3.heap.size w3 W → (W.setCell ⟨Br, 0, none⟩ (.bool true)).cell? ⟨Br, 0, none⟩ = some (.bool true) ∧ Below w.heap.size w (W.setCell ⟨Br, 0, none⟩ (.bool true)) := fun W h =>
    ⟨one_cell _ (HKEEP.out W h).2.2, (HB13.out.trans (h.mono HB13.out.size)).setCell (p := ⟨Br, 0, none⟩) (by have := HSZ.out; simp; omega) _⟩
  have HRET := Lib.hid hret
  clear hret
  cases b
  case true =>
    have q0 := cell_of_heap (HKEEP.out w5 H5.out).2.2 0
    have qf := frozen_of_heap (HKEEP.out w5 H5.out).2.2
    have HQ := Lib.hid (HRET.out w5 H5.out)
    go_wp2_with fail
    have k9 := HQ.out.1
    first | exact marks_ret0 (v := .bool true) (by simp [results, Tryz.results4, go_sem, k9]) rfl ⟨rfl, HQ.out.2⟩ | exact marks_ret0 (v := .bool true) (by simp [results, Tryz.results4, go_sem, k9]) rfl ⟨rfl, by rw [← hbt]; exact HQ.out.2⟩
  by_cases hP40 : 4096 < P.size
  · have q0 := cell_of_heap (HKEEP.out w5 H5.out).2.2 0
    have qf := frozen_of_heap (HKEEP.out w5 H5.out).2.2
    have HQ := Lib.hid (HRET.out w5 H5.out)
    go_wp2_with fail
    have k9 := HQ.out.1
    first | exact marks_ret0 (v := .bool true) (by simp [results, Tryz.results4, go_sem, k9]) rfl ⟨rfl, HQ.out.2⟩ | exact marks_ret0 (v := .bool true) (by simp [results, Tryz.results4, go_sem, k9]) rfl ⟨rfl, by rw [← hbt]; exact HQ.out.2⟩
  have hm200 : m ≤ 200 := by rw [HM.out]; exact (HSM.out rfl).len
  have hea : ∀ p ∈ t, p.1.length ≤ 400000 := fun p hp => by have := ((HSM.out rfl).each p hp).1; omega
  have hGt := fun W (h : Below w3.heap.size w3 W) => rtgood_any W a c t (HR.out.below (HB13.out.trans (h.mono HB13.out.size))) (by rw [← HM.out]; omega) hea
  rw [← HM.out] at hGt
  have k1 := cell_of_heap (HKEEP.out w5 H5.out).1 0
  cases hgt : goodT t
  · have hg := hGt w5 H5.out
    rw [hgt] at hg
    have HGT := Lib.hid hg
    clear hg hGt hgt
    go_wp2_with fail
    refine HGT.out.mono ?_
    rintro e w6 ⟨rfl, h6⟩
    have H6 := Lib.hid (H5.out.trans (h6.mono H5.out.size))
    have q0 := cell_of_heap (HKEEP.out w6 H6.out).2.2 0
    have qf := frozen_of_heap (HKEEP.out w6 H6.out).2.2
    have HQ := Lib.hid (HRET.out w6 H6.out)
    clear h6 k1
    go_wp2_with fail
    have k9 := HQ.out.1
    first | exact marks_ret0 (v := .bool true) (by simp [results, Tryz.results4, go_sem, k9]) rfl ⟨rfl, HQ.out.2⟩ | exact marks_ret0 (v := .bool true) (by simp [results, Tryz.results4, go_sem, k9]) rfl ⟨rfl, by rw [← hbt]; exact HQ.out.2⟩
  have hg := hGt w5 H5.out
  rw [hgt] at hg
  have HGT := Lib.hid hg; have HGG := Lib.hid hgt; have HEA := Lib.hid hea
  have hsrt := (goodT_files hgt).2.2.1
  have hget := fun W (h : Below w3.heap.size w3 W) => tget_any W a c t P.data.toList (HR.out.below (HB13.out.trans (h.mono HB13.out.size))) hsrt (by rw [← HM.out]; omega)
  have hrget := fun W (h : Below w3.heap.size w3 W) => rget_any W a c t P (HR.out.below (HB13.out.trans (h.mono HB13.out.size))) hsrt (by rw [← HM.out]; omega)
  have hrn := fun W (h : Below w3.heap.size w3 W) => rnames_any W a c t P (HR.out.below (HB13.out.trans (h.mono HB13.out.size))) (by rw [← HM.out]; exact hm200) hea (by omega)
  obtain ⟨wl, hwl⟩ : ∃ wl, wl = namesT t P.data.toList := ⟨_, rfl⟩
  obtain ⟨nw, hnw⟩ : ∃ nw, nw = wl.length := ⟨_, rfl⟩
  have hnwm : nw ≤ 200 := by
    rw [hnw, hwl]
    have h1 := allT_le (rawN P.data.toList t)
    have h2 := rawN_le P.data.toList t
    have := HM.out
    unfold namesT
    omega
  rw [← HM.out, ← hwl] at hrn
  rw [← HM.out, HPV.out] at hget
  rw [← HM.out] at hrget
  unfold StrsTo at hrn
  rw [← hnw] at hrn
  obtain ⟨gv, gb, hgv⟩ : ∃ (gv : ByteArray) (gb : Bool), strV (getT t P.data.toList).1 = .string gv ∧ (getT t P.data.toList).2 = gb := ⟨_, _, rfl, rfl⟩
  rw [hgv.1, hgv.2] at hget hrget
  have hgg : (gv.toList == gv.toList) = true := by simp
  have hbb : (gb == gb) = true := by simp
  have HGET := Lib.hid hget; have HRGET := Lib.hid hrget; have HRN := Lib.hid hrn; have HWL := Lib.hid hwl; have HNW := Lib.hid hnw
  clear hg hGt hgt hea hsrt hget hrget hrn hwl hnw hgv
  go_wp2_with fail
  refine HGT.out.mono ?_
  rintro e w6 ⟨rfl, h6⟩
  have H6 := Lib.hid (H5.out.trans (h6.mono H5.out.size))
  clear h6 k1
  have k1 := cell_of_heap (HKEEP.out w6 H6.out).1 0
  go_wp2_with fail
  refine (HGET.out w6 H6.out).mono ?_
  rintro e w7 ⟨rfl, h7⟩
  have H7 := Lib.hid (H6.out.trans (h7.mono H6.out.size))
  clear h7 k1
  have k1 := cell_of_heap (HKEEP.out w7 H7.out).1 0
  go_wp2_with fail
  refine (HRGET.out w7 H7.out).mono ?_
  rintro e w8 ⟨rfl, h8⟩
  have H8 := Lib.hid (H7.out.trans (h8.mono H7.out.size))
  clear h8 k1
  have k1 := cell_of_heap (HKEEP.out w8 H8.out).1 0
  go_wp2_with fail
  refine (HRN.out w8 H8.out).mono ?_
  rintro e wa ⟨aw, cw, rfl, hrw, hb6⟩
  have hH6 := H8.out.trans (hb6.mono H8.out.size)
  obtain ⟨wb, hwb, hbb2, hxb, z1, z2⟩ := new_cell wa (.slice aw nw cw) 34
  obtain ⟨wd, hwd, hbd, hxd, z3, z4⟩ := new_cell wb (.int .i64 0) 3
  obtain ⟨Bw, hbw⟩ : ∃ b, wa.heap.size = b := ⟨_, rfl⟩
  obtain ⟨Bi, hbi⟩ : ∃ b, wb.heap.size = b := ⟨_, rfl⟩
  have hb78 := hbb2.trans (hbd.mono hbb2.size)
  have hb38 := hH6.trans (hb78.mono hH6.size)
  have hx78 := (hbd.block _ (by omega)).trans hxb
  rw [hbw] at hx78; rw [hbi] at hxd
  have HSZ2 := Lib.hid (show Bt + 3 ≤ Bw ∧ Bi = Bw + 1 ∧ wd.heap.size = Bw + 2 from by have := HSZ.out; have := hH6.size; omega)
  have HX7 := Lib.hid hx78; have HX8 := Lib.hid hxd; have HD := Lib.hid hb38
  have HRW := Lib.hid (hrw.below hb78)
  have k2 := cell_of_heap (HKEEP.out _ hb38).1 0
  have HWD := Lib.hid hwd
  clear hb6 hrw hbb2 hbd hxb hxd z1 z2 z3 z4 hb78 hb38 hx78 hH6 k1
  rw [← hwd] at k2
  clear hwd
  go_wp2_with fail
  refine (names_any _ a m c P).mono ?_
  rintro e w9 ⟨rfl, e9⟩
  rw [HWD.out] at e9 ⊢
  obtain ⟨B8, hB8⟩ : ∃ b, wd.heap.size = b := ⟨_, rfl⟩
  have hb9 : Below wd.heap.size wd w9 := by rw [e9]; exact ((Below.refl _ _).alloc (Nat.le_refl _) _).alloc (by simp) _
  have hC2 : w9.heap[B8 + 1]? = some (.cells #[.string P] 9 (0, 0)) := by
    rw [e9, ← hB8, show wd.heap.size + 1 = (wd.alloc (.cells #[.slice a m c] 26)).heap.size by simp]
    exact heap_alloc_new _ _
  have hC1 : w9.heap[B8]? = some (.cells #[.slice a m c] 26 (0, 0)) := by
    rw [e9, ← hB8, Below.heap_alloc _ _ _ (by simp)]
    exact heap_alloc_new _ _
  have hz := HSZ.out
  have hz2 := HSZ2.out
  have hk9 := HKEEP.out wd HD.out
  have hM9 := (hb9.block Bm (by omega)).trans hk9.2.1
  have hR9 := (hb9.block Br (by omega)).trans hk9.2.2
  have hW9 := (hb9.block Bw (by omega)).trans HX7.out
  have hI9 := (hb9.block Bi (by omega)).trans HX8.out
  have hbw9 : Below w.heap.size w w9 := (HB13.out.trans (HD.out.mono HB13.out.size)).trans (hb9.mono (HB13.out.trans (HD.out.mono HB13.out.size)).size)
  have hRW9 := HRW.out.below hb9
  have hord : w.heap.size = Bt ∧ Bt < Bm ∧ Bm < Br ∧ Br < Bw ∧ Bw < Bi ∧ Bi < B8 ∧ B8 + 1 < w9.heap.size := ⟨by omega, by omega, by omega, by omega, by omega, by omega, lt_of_heap hC2⟩
  have hst := names_stops 2 B8 (B8 + 1) Bi a c t P w w9 (by omega) (by rw [← HM.out]; exact hC1) hC2 HR.out hbw9 (by rw [← HM.out]; omega) HEA.out (by omega) (by omega)
  rw [← HWL.out] at hst
  have HST := Lib.hid hst; have HM9 := Lib.hid hM9; have HR9 := Lib.hid hR9; have HW9 := Lib.hid hW9; have HI9 := Lib.hid hI9; have HB9 := Lib.hid hbw9; have HORD := Lib.hid hord; have HRW9 := Lib.hid hRW9
  rw [hB8]
  clear k2 hb9 hC1 hC2 hz hz2 hk9 hM9 hR9 hW9 hI9 hbw9 hRW9 hord hst
  go_wp2_with fail
  refine (wpIn_wide (n := 3)).1 ?_
  rw [← e9]
  refine wpIn_rangeFunc_ownF rfl (by omega) (gf := 41) (lb := #[.pointer (some ⟨B8, 0, none⟩), .pointer (some ⟨B8 + 1, 0, none⟩)]) rfl trivial enters_names
    HST.out (fun h k => KpC.trans h k) kpC_b (Below.refl _ _) (fun _ => rfl)
    (OutI w9 Bi wl) (OutX w9 Bi most wl) (outI_own (by have := HORD.out; omega)) (outX_own (by have := HORD.out; omega)) ⟨List.nil_prefix, HI9.out, Ch.refl _ _⟩
    (fun x => { tmps := #[.agg #[.slice a m c], .string P, .int .i64 most, .pointer (some ⟨Bt, 0, none⟩), undef, .pointer (some ⟨Bm, 0, none⟩), .pointer (some ⟨Br, 0, none⟩), .string gv, .bool gb, .string gv, .bool gb, .pointer (some ⟨Bw, 0, none⟩), .pointer (some ⟨Bi, 0, none⟩), .string ⟨x.toArray⟩, .bool true, .bool false, .pointer (some ⟨Bt, 0, none⟩), .slice a m c, .bool false, .bool false, .string P, .int .i64 (P.size : Int), .bool (decide ((4096 : Int) < P.size)), .bool (decide ((4096 : Int) < P.size)), .bool (decide ((4096 : Int) < P.size)), .agg #[.slice a m c], .bool true, .bool false, .bool (decide ((4096 : Int) < P.size)), .tuple #[.string gv, .bool gb], .agg #[.slice a m c], .string P, .tuple #[.string gv, .bool gb], .string gv, .bool gb, .tuple #[.string gv, .bool gb], .agg #[.slice a m c], .string P, .tuple #[.string gv, .bool gb], .string gv, .bool gb, .agg #[.slice a m c], .string P, .slice aw nw cw, .agg #[.slice a m c], .string P, .func (.func 41) #[] #[.pointer (some ⟨B8, 0, none⟩), .pointer (some ⟨B8 + 1, 0, none⟩)], .string ⟨x.toArray⟩, undef, undef, undef, undef, undef, undef, undef, undef, undef, undef, undef, undef, undef, undef, undef, undef, undef, undef, undef, undef, undef, undef, undef, undef, undef, undef, undef, undef, undef, undef, undef, undef, undef, undef, undef, undef], defers := [] }) ?assign ?body ?done ?stop
  case assign =>
    intro l x W K hK
    unfold encS strV
    gi_wp2
    exact hK
  case stop =>
    rintro D c9 pre W hD hp hx hK
    rcases hx with hx | ⟨rfl, q2, q3, q4⟩
    · exact absurd hp hx
    have hord := HORD.out
    have hwW := (q4.block Bw (by omega) (by simp; omega)).trans HW9.out
    have hmW := (q4.block Bm (by omega) (by simp; omega)).trans HM9.out
    have hrW := (q4.block Br (by omega) (by simp; omega)).trans HR9.out
    have f0 := cell_of_heap hwW 0
    have m0 := cell_of_heap hmW 0
    have r0 := cell_of_heap hrW 0
    have rf := frozen_of_heap hrW
    have i0 := cell_of_heap q3 0
    have hbW : Below w.heap.size w W := ⟨q4.os.trans HB9.out.os, q4.tape.trans HB9.out.tape, q4.output.trans HB9.out.output, Nat.le_trans HB9.out.size q4.size, fun k hk => (q4.block k (by omega) (by simp; omega)).trans (HB9.out.block k hk)⟩
    have hbD : Below w.heap.size w ((W.setCell ⟨Br, 0, none⟩ (.bool true)).putObj D (.deferred none)) :=
      (hbW.setCell (p := ⟨Br, 0, none⟩) (by simp; omega) (.bool true)).grown (grownBy_putObj' _ D _) (Nat.le_trans hbW.size (by simp [World.setCell])) (fun k e => by obtain rfl : D = k := Option.some.inj e; omega)
    have hset : (W.setCell ⟨Br, 0, none⟩ (.bool true)).heap[D]? = some (.deferred (some [])) := (Below.heap_setCell _ _ _ _ (by simp; omega)).trans hK
    have k0 := one_cell (.bool true) hrW
    have k2 : ((W.setCell ⟨Br, 0, none⟩ (.bool true)).putObj D (.deferred none)).cell? ⟨Br, 0, none⟩ = some (.bool true) := (World.cell?_of_block (World.putObj_heap_other (by simp; omega))).trans k0
    have HBD := Lib.hid hbD; have HSET := Lib.hid hset; have HK1 := Lib.hid k2
    obtain ⟨q, hq⟩ : ∃ q, q = pre.length := ⟨_, rfl⟩
    rw [← hq] at q2 i0
    clear hord e9 hw1 hw2 hw3 hwW hmW hrW q3 q4 hbW hbD hset k0 k2 hK hp hq
    refine wpIn_wide.2 ?_
    by_cases hn0 : q = nw
    · subst hn0
      go_wp2_with fail
      have k2 := HK1.out
      exact marks_ret1 (v := .bool true) rfl HSET.out (by simp [results, Tryz.results4, go_sem, k2]) ⟨rfl, HBD.out⟩
    · go_wp2_with fail
      have k2 := HK1.out
      exact marks_ret1 (v := .bool true) rfl HSET.out (by simp [results, Tryz.results4, go_sem, k2]) ⟨rfl, HBD.out⟩
  case body =>
    rintro l pre x W ⟨q1, q3, q4⟩ hpre
    have hord := HORD.out
    rw [← HNW.out] at hpre
    obtain ⟨y, hy⟩ : ∃ y, wl[pre.length]? = some y := ⟨_, List.getElem?_eq_getElem (by rw [← HNW.out]; exact hpre)⟩
    have hwW := (q4.block Bw (by omega) (by simp; omega)).trans HW9.out
    have hmW := (q4.block Bm (by omega) (by simp; omega)).trans HM9.out
    have hrW := (q4.block Br (by omega) (by simp; omega)).trans HR9.out
    have f0 := cell_of_heap hwW 0
    have m0 := cell_of_heap hmW 0
    have r0 := cell_of_heap hrW 0
    have rf := frozen_of_heap hrW
    have i0 := cell_of_heap q3 0
    have fi := frozen_of_heap q3
    have hn1 : ¬ (Bm = Bi) := by omega
    have hn2 : ¬ (Bi = Bm) := by omega
    have HQ1 := Lib.hid q1; have HQ3 := Lib.hid q3; have HQ4 := Lib.hid q4; have HY := Lib.hid hy
    obtain ⟨b, o, rfl, hcs⟩ := HRW9.out (by intro e; rw [e] at hy; cases hy)
    have hc0 := hcs _ _ hy
    have hb9 : b < w9.heap.size := cell_lt hc0
    have hbne : b ≠ Bi := by
      intro e
      subst e
      rw [cell_of_heap HI9.out] at hc0
      generalize o + pre.length = z at hc0
      cases z with
      | zero => simp at hc0
      | succ z => simp at hc0
    have s0 : W.cell? ⟨b, o + pre.length, none⟩ = some (.string ⟨y.toArray⟩) := (World.cell?_of_block (a := ⟨b, o + pre.length, none⟩) (q4.block b hb9 (by simpa using hbne))).trans hc0
    have HRST := Lib.hid (And.intro hord hbne)
    clear hcs hc0 q1 q3 q4 hy hwW hmW hrW hord e9 hw1 hw2 hw3 hb9 hbne
    have hbn : ¬ nw ≤ pre.length := by omega
    by_cases hxy : x = y
    · subst hxy
      have hNEXT : pre ++ [x] <+: wl := by
        obtain ⟨r, hr⟩ := HQ1.out
        have := HY.out
        rw [← hr, List.getElem?_append_right (Nat.le_refl _), Nat.sub_self] at this
        cases r with
        | nil => cases this
        | cons r0 r1 =>
          obtain rfl : r0 = x := by simpa using this
          exact ⟨r1, by rw [← hr]; simp⟩
      have HNEXT := Lib.hid hNEXT; clear hNEXT
      have hW2 := heap_setCell_here (i := 0) (.int .i64 ((pre.length : Int) + 1)) HQ3.out
      have hC2 := HQ4.out.setCell (p := ⟨Bi, 0, none⟩) (by simp) (.int .i64 ((pre.length : Int) + 1))
      have hB2 : KpC Bi W (W.setCell ⟨Bi, 0, none⟩ (.int .i64 ((pre.length : Int) + 1))) := kpC_set W _
      have hlen2 : ((pre ++ [x]).length : Int) = (pre.length : Int) + 1 := by simp
      have HW2 := Lib.hid hW2; have HC2 := Lib.hid hC2; have HB2 := Lib.hid hB2; have HL2 := Lib.hid hlen2
      clear hW2 hC2 hB2 hlen2
      by_cases hmo : (pre.length : Int) + 1 = most
      · have hmb : ((pre.length : Int) + 1 == most) = true := by simpa using hmo
        have HMO := Lib.hid hmo
        clear hmo
        gi_wp2
        refine ⟨KeepsOthers.setCell _ _ _, .inr ⟨rfl, ?_, ?_, HC2.out⟩⟩
        · rw [HL2.out]; exact HMO.out
        · rw [HL2.out]; exact HW2.out
      · have hmb : ((pre.length : Int) + 1 == most) = false := beq_eq_false_iff_ne.2 hmo
        gi_wp2
        refine ⟨KeepsOthers.setCell _ _ _, HB2.out, HNEXT.out, ?_, HC2.out⟩
        rw [HL2.out]; exact HW2.out
    · have HNEXT : ¬ pre ++ [x] <+: wl := by
        rintro ⟨r, hr⟩
        have := HY.out
        rw [← hr, List.append_assoc, List.getElem?_append_right (Nat.le_refl _), Nat.sub_self] at this
        exact hxy (by simpa using this)
      have HNEXT := Lib.hid HNEXT
      have hxb : (x == y) = false := by simpa using hxy
      gi_wp2
      exact ⟨KeepsOthers.setCell _ _ _, .inl HNEXT.out⟩
  case done =>
    rintro D xs W hD hxs ⟨q1, q3, q4⟩ hK
    rw [hxs, ← HNW.out] at q3
    have hord := HORD.out
    have hwW := (q4.block Bw (by omega) (by simp; omega)).trans HW9.out
    have hmW := (q4.block Bm (by omega) (by simp; omega)).trans HM9.out
    have hrW := (q4.block Br (by omega) (by simp; omega)).trans HR9.out
    have f0 := cell_of_heap hwW 0
    have m0 := cell_of_heap hmW 0
    have r0 := cell_of_heap hrW 0
    have rf := frozen_of_heap hrW
    have i0 := cell_of_heap q3 0
    have hbW : Below w.heap.size w W := ⟨q4.os.trans HB9.out.os, q4.tape.trans HB9.out.tape, q4.output.trans HB9.out.output, Nat.le_trans HB9.out.size q4.size, fun k hk => (q4.block k (by omega) (by simp; omega)).trans (HB9.out.block k hk)⟩
    have hbD : Below w.heap.size w ((W.setCell ⟨Br, 0, none⟩ (.bool true)).putObj D (.deferred none)) :=
      (hbW.setCell (p := ⟨Br, 0, none⟩) (by simp; omega) (.bool true)).grown (grownBy_putObj' _ D _) (Nat.le_trans hbW.size (by simp [World.setCell])) (fun k e => by obtain rfl : D = k := Option.some.inj e; omega)
    have hset : (W.setCell ⟨Br, 0, none⟩ (.bool true)).heap[D]? = some (.deferred (some [])) := (Below.heap_setCell _ _ _ _ (by simp; omega)).trans hK
    have k0 := one_cell (.bool true) hrW
    have k2 : ((W.setCell ⟨Br, 0, none⟩ (.bool true)).putObj D (.deferred none)).cell? ⟨Br, 0, none⟩ = some (.bool true) := (World.cell?_of_block (World.putObj_heap_other (by simp; omega))).trans k0
    have HBD := Lib.hid hbD; have HSET := Lib.hid hset; have HK1 := Lib.hid k2
    clear hord e9 hw1 hw2 hw3 hwW hmW hrW q1 q3 q4 hbW hbD hset k0 k2 hK hxs
    go_wp2_with fail
    have k2 := HK1.out
    exact marks_ret1 (v := .bool true) rfl HSET.out (by simp [results, Tryz.results4, go_sem, k2]) ⟨rfl, HBD.out⟩
end Go.Proofs.YtjcimajkjnjdpaaGreatDoor
