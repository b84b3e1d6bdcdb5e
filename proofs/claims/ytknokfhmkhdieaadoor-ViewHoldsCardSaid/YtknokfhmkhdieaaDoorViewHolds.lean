/- DERIVED. The law ViewHolds, walked. -/
import Derived.Test.YtknokfhmkhdieaaDoorViewHoldLaw
import Derived.Test.YtknokfhmkhdieaaDoorViewAlive
namespace Go.Proofs.YtknokfhmkhdieaaDoor
open Go.RowKit Go.Shelf Go.ChangeShapes Go.WideShapes
set_option linter.unusedVariables false
attribute [local go_sem] Oper.semAt_some

theorem calls_of_wp_marks {P : Program} {f : FuncId} {fn : Func} {c : Code} {args : Array Value} {w : World} {R : Ending → World → Prop} (hf : P.funcs[f]? = some fn) (hb : fn.body = some c)
    (h : c.wp P (bodyPostM Fence.wide 3 P fn R) { tmps := args ++ Array.replicate (fn.ntmps - args.size) undef, defers := [] } w) : Calls P f args w R :=
  (callsIn_wide (n := 3)).1 (callsIn_of_wp_marks hf hb trivial (wpIn_wide.2 h) rfl)
theorem marks_ret0 {P : Program} {fn : Func} {R : Ending → World → Prop} {a : Act} {w : World} {v : Value} (h : (results fn a.tmps).run P w = .ok v w) (hd : a.defers = []) (hR : R (.returned v) w) : bodyPostM Fence.wide 3 P fn R .ret a w := by
  show LeavesInM _ _ _ _ _ _ a.defers .returning w
  rw [hd]
  exact ⟨v, h, hR⟩
theorem marks_ret1 {P : Program} {fn : Func} {R : Ending → World → Prop} {a : Act} {w : World} {v : Value} {D : Nat} (hd : a.defers = [{ target := .collected D, args := #[] }]) (hK : w.heap[D]? = some (.deferred (some [])))
    (h : (results fn a.tmps).run P (w.putObj D (.deferred none)) = .ok v (w.putObj D (.deferred none))) (hR : R (.returned v) (w.putObj D (.deferred none))) : bodyPostM Fence.wide 3 P fn R .ret a w := by
  show LeavesInM _ _ _ _ _ _ a.defers .returning w
  rw [hd]
  exact ⟨by simp, .inl ⟨D, _, rfl, run_takeDeferred hK, v, h, hR⟩⟩
theorem enters_out : ∀ args w, (callFunc 28 args).run Tryd.prog w = .ok (.enter 28 args) w := enters_of Tryd.func28 (by kernel_rfl) rfl
theorem one_cell {w : World} {R : Nat} {u : Value} {T : TypeId} (x : Value) (h : w.heap[R]? = some (.cells #[u] T (0, 0))) : (w.setCell ⟨R, 0, none⟩ x).cell? ⟨R, 0, none⟩ = some x := cell_of_heap (heap_setCell_here (i := 0) x h) 0
theorem small_ok {ms : List Mt} (h : Small ms) : MtOk ms := ⟨fun m hm => by have := h.dir m hm; omega, fun m hm => by have := h.files m hm; omega, fun m hm p hp => by have := (h.file m hm p hp).1; omega⟩
theorem infoStr : (Tryd.prog.info? 9).map (fun i => (i.zero, i.size, i.bytes)) = some (some (.string ByteArray.empty), 1, 16) := by kernel_rfl
theorem strsV_snoc (ls : List (List UInt8)) (x : List UInt8) : strsV (ls ++ [x]) = strsV ls ++ [strV x] := by simp [strsV]
theorem sum_next {ms : List Mt} {k : Nat} {m : Mt} (h : ms[k]? = some m) : ((ms.take (k + 1)).map (fun m => m.2.length)).sum = ((ms.take k).map (fun m => m.2.length)).sum + m.2.length := by
  rw [List.take_add_one, h, List.map_append, List.sum_append]
  simp
theorem fst_next {ms : List Mt} {k : Nat} {m : Mt} (h : ms[k]? = some m) : (ms.take (k + 1)).map Prod.fst = (ms.take k).map Prod.fst ++ [m.1] := by
  rw [List.take_add_one, h, List.map_append]
  rfl
set_option maxRecDepth 100000 in
set_option maxHeartbeats 16000000 in
theorem holds_law (w : World) (a : Option Addr) (c : Nat) (ms : List Mt) (hr : RdMt w a ms) (hs : Sl a ms.length c) (hcap : ms.length ≤ c) (hcm : c ≤ 4398046511104) (hsz : MtSz ms) :
    Calls Tryd.prog 6 #[.slice a ms.length c] w (fun e w' => e = .returned (.bool true) ∧ Below w.heap.size w w') := by
  obtain ⟨n, hnn⟩ : ∃ n, n = ms.length := ⟨_, rfl⟩
  have hG := fun W (h : Below w.heap.size w W) => great_any W a c ms (hr.below h) hsz
  have hnl : n ≤ 4398046511104 := by rw [hnn]; exact hsz.len
  rw [← hnn] at hcap ⊢
  rw [← hnn] at hG
  obtain ⟨w3, hw3, hb3, hx3, y1, y2⟩ := new_cell w (.bool false) 4
  obtain ⟨Br, hbr⟩ : ∃ b, w.heap.size = b := ⟨_, rfl⟩
  rw [hbr] at hx3
  have hkeep : ∀ W, Below w3.heap.size w3 W → W.heap[Br]? = some (.cells #[.bool false] 4 (0, 0)) := fun W h => (h.block _ (by omega)).trans hx3
  have HR := Lib.hid hr; have HN := Lib.hid hnn; have HG := Lib.hid hG; have HB3 := Lib.hid hb3; have HKEEP := Lib.hid hkeep; have HSZ := Lib.hid (show w.heap.size = Br ∧ Br < w3.heap.size from by omega)
  clear hr hs hnn hG hsz hb3 hx3 y1 y2 hkeep
  have hret : ∀ W, Below w3.heap.size w3 W → (W.setCell ⟨Br, 0, none⟩ (.bool true)).cell? ⟨Br, 0, none⟩ = some (.bool true) ∧ Below w.heap.size w (W.setCell ⟨Br, 0, none⟩ (.bool true)) := fun W h =>
    ⟨one_cell _ (HKEEP.out W h), (HB3.out.trans (h.mono HB3.out.size)).setCell (p := ⟨Br, 0, none⟩) (by have := HSZ.out; simp; omega) _⟩
  have HRET := Lib.hid hret
  clear hret
  refine calls_of_wp_marks Tryd.func6 rfl ?_
  simp only [Tryd.ntmps6, List.size_toArray, List.length_cons, List.length_nil, Nat.reduceAdd, Nat.reduceSub, Array.replicate_succ, Array.replicate_zero, List.push_toArray, List.append_toArray, List.nil_append, List.cons_append]
  go_wp2_with fail
  refine (alive_any _).mono ?_
  rintro e w4 ⟨rfl, h4⟩
  have H4 := Lib.hid h4
  clear h4
  go_wp2_with fail
  refine (HG.out w4 (HB3.out.trans (H4.out.mono HB3.out.size))).mono ?_
  rintro e w5 ⟨b, rfl, hsm, h5⟩
  have H5 := Lib.hid (H4.out.trans (h5.mono H4.out.size)); have HSM := Lib.hid hsm
  clear h5 hsm
  cases b
  · have HSM2 := Lib.hid (HSM.out rfl)
    have hn40 : n ≤ 40 := by rw [HN.out]; exact HSM2.out.len
    have hw5 := HB3.out.trans (H5.out.mono HB3.out.size)
    have hA := build_any w5 a c ms (HR.out.below hw5) (by rw [← HN.out]; exact hcap) (by unfold maxLen; omega) (by rw [← HN.out]; omega) (small_ok HSM2.out)
    cases h1 : buildT ms with
    | mk x t =>
    rw [h1, ← HN.out] at hA
    unfold MakeTo at hA
    dsimp only at hA
    obtain ⟨nt, hnt⟩ : ∃ nt, nt = t.length := ⟨_, rfl⟩
    rw [← hnt] at hA
    have HA := Lib.hid hA; have HNT := Lib.hid hnt; have HBT := Lib.hid h1
    clear hA hnt h1 hw5
    go_wp2_with fail
    refine HA.out.mono ?_
    rintro e w6 ⟨a6, c6, rfl, hrow6, hb6⟩
    obtain ⟨w7, hw7, hb7, hx7, z1, z2⟩ := new_cell w6 (.slice a6 nt c6) 27
    obtain ⟨Bt, hbt⟩ : ∃ b, w6.heap.size = b := ⟨_, rfl⟩
    rw [hbt] at hx7
    have hb67 := hb6.trans (hb7.mono hb6.size)
    have H7 := Lib.hid (H5.out.trans (hb67.mono H5.out.size)); have HX7 := Lib.hid hx7; have HR7 := Lib.hid (hrow6.below hb7)
    clear hrow6 hb6 hb7 hx7 z1 z2 hb67
    by_cases hx : x = 0
    · subst hx
      have hh := holds_of HBT.out
      have hnt32 : nt ≤ 32 := by rw [HNT.out]; exact (good_len hh.good).1
      have HH := Lib.hid hh
      obtain ⟨i0, hi, hzz0, hzz1, hzz2⟩ := info_three infoStr
      have HI := Lib.hid (And.intro hi (And.intro hzz0 (And.intro hzz1 hzz2)))
      clear hh hi hzz0 hzz1 hzz2
      go_wp2_with fail
      go_loopw [5, 6, 24] (fun y s x wr => ∃ (k N : Nat) (a5 : Option Addr) (c5 : Nat), x = .int .i64 k ∧ y = .slice a5 k c5 ∧ s = .int .i64 N ∧ k ≤ n ∧ N ≤ k * 131072 ∧ Hid (N = ((ms.take k).map (fun m => m.2.length)).sum) ∧ Hid (wr.ownsRow w7.heap.size 9 1 (.slice a5 k c5) k (strsV ((ms.take k).map Prod.fst))) ∧ Hid (Below w7.heap.size w7 wr)) (fun _ _ x _ => n - (intOf x).toNat)
      case atStart => exact ⟨0, 0, none, 0, rfl, rfl, rfl, Nat.zero_le _, Nat.zero_le _, rfl, World.ownsRow_nil _ _ _ _, Below.refl _ _⟩
      case round =>
        obtain ⟨k, N, a5, c5, rfl, rfl, rfl, hkn, hNb, hNs, hown, hbw⟩ := hrel
        have HW := Lib.hid (HB3.out.trans ((H7.out.trans (hbw.out.mono H7.out.size)).mono HB3.out.size))
        by_cases hlt : k < n
        · obtain ⟨m, hm⟩ : ∃ m, ms[k]? = some m := ⟨_, List.getElem?_eq_getElem (by rw [← HN.out]; exact hlt)⟩
          obtain ⟨rb, o, rfl, _, hcs⟩ := HR.out (fun e => by rw [e] at hm; cases hm)
          obtain ⟨p0, av, cv, p1, hrf, hsl⟩ := hcs k m hm
          replace p0 := below_keeps HW.out _ _ p0
          replace p1 := below_keeps HW.out _ _ p1
          have hmem := List.mem_of_getElem? hm
          obtain ⟨S1, hS1⟩ : ∃ S : ByteArray, S = ⟨m.1.toArray⟩ := ⟨_, rfl⟩
          obtain ⟨nv, hnv⟩ : ∃ nv, nv = m.2.length := ⟨_, rfl⟩
          have hnvz : nv ≤ 131072 := by rw [hnv]; exact HSM2.out.files m hmem
          have hS1z : S1.size ≤ 400000 := by rw [hS1, str_size]; have := HSM2.out.dir m hmem; omega
          have hS1d : S1.data.toList = m.1 := by rw [hS1]
          unfold strV at p0
          rw [← hS1] at p0; rw [← hnv] at p1
          obtain ⟨w8, hw8, hb8, hfx, hz5, hz6⟩ := new_two wr (.string S1) (.slice av nv cv) 36
          have f0 := cell_of_heap hfx 0
          have f1 := cell_of_heap hfx 1
          have hb78 := hbw.out.trans (hb8.mono hbw.out.size)
          have HFX := Lib.hid hfx; have HB78 := Lib.hid hb78
          have HO8 := Lib.hid (ownsRow_keep hown.out (w' := w8.alloc (.cells #[.string S1] 9)) (fun x hx => (Below.heap_alloc w8 _ x (by have := owns_lt hown.out x hx; omega)).trans (hb8.block x (owns_lt hown.out x hx))))
          have hsrc := one_src w8 m.1 9
          rw [show strV m.1 = .string S1 by rw [hS1]; rfl] at hsrc
          have HSR := Lib.hid hsrc
          have HZ8 := Lib.hid (show w7.heap.size ≤ (w8.alloc (.cells #[.string S1] 9)).heap.size from by have := hb78.size; simp; omega)
          have HM := Lib.hid hm; have HS1 := Lib.hid hS1; have HNV := Lib.hid hnv; have HRF := Lib.hid hrf
          have hC := fun W (h : Below w7.heap.size w7 W) => cut_tree W a6 c6 t S1 ((HR7.out.below h).rd) HR7.out.sl (by rw [← HNT.out]; omega) (fun p hp => by have := (good_len HH.out.good).2 p hp; omega) hS1z
          rw [hS1d, HH.out.cut m hmem, ← HNT.out] at hC
          unfold MakeTo at hC
          dsimp only at hC
          rw [← hnv] at hC
          have HC := Lib.hid hC
          have HNX := Lib.hid (fst_next hm); have HSN := Lib.hid (sum_next hm)
          have HLT := Lib.hid (fun g hg => owns_lt hown.out g hg)
          clear hcs hm hmem hS1 hnv hS1d hrf hsl hfx hz5 hz6 hb8 hb78 hsrc hC hown
          go_wp2_with (first | (at_builtin; refine wpList_append_srcs rfl (.tmp 28) (.tmp 31) 34 34 rfl w7.heap.size 9 i0 _ 1 16 Tryd.underlying34 HI.out.1 HI.out.2.1 HI.out.2.2.1 HI.out.2.2.2 rfl (by decide) _ rfl k _ HO8.out _ rfl _ _ HSR.out (by unfold maxLen; omega) (by omega) HZ8.out ?_; intro a' c' w9 hown9 hgrow _ hblk; have HNEXT := Lib.hid hown9; have HB9 := Lib.hid (show Below w7.heap.size w7 w9 from grow_below (n := 0) HB78.out hgrow (fun x hx => owns_ge HO8.out x hx)); have HFX9 := Lib.hid (show w9.heap[wr.heap.size]? = some (.cells #[.string S1, .slice av nv cv] 36 (0, 0)) from (hgrow.block _ (by have := lt_of_heap HFX.out; simp; omega) (fun e => absurd (HLT.out _ e.symm) (Nat.lt_irrefl _))).trans ((Below.heap_alloc w8 _ _ (lt_of_heap HFX.out)).trans HFX.out)); have g0 := cell_of_heap HFX9.out 0; have g1 := cell_of_heap HFX9.out 1; have gt := cell_of_heap ((HB9.out.block Bt (lt_of_heap HX7.out)).trans HX7.out) 0; clear hown9 hgrow hblk f0 f1) | fail)
          refine (HC.out w9 HB9.out).mono ?_
          rintro e w10 ⟨ac, cc, rfl, hrc, hb10⟩
          obtain ⟨w11, hw11, hb11, hx11, y3, y4⟩ := new_cell w10 (.slice ac nv cc) 27
          have hb1011 := hb10.trans (hb11.mono hb10.size)
          have hb711 := HB9.out.trans (hb1011.mono HB9.out.size)
          have hb8w11 : w11.heap[wr.heap.size]? = some (.cells #[.string S1, .slice av nv cv] 36 (0, 0)) := (hb1011.block _ (lt_of_heap HFX9.out)).trans HFX9.out
          have c0 := cell_of_heap hx11 0
          have g1' := cell_of_heap hb8w11 1
          have hHR11 : RdFl w11 av m.2 := HRF.out.below (HB3.out.trans ((H7.out.trans (hb711.mono H7.out.size)).mono HB3.out.size))
          have hsm := same_any w11 ac av cc cv m.2 m.2 ((hrc.below hb11).rd) hHR11 (by rw [← HNV.out]; omega) (by rw [← HNV.out]; omega)
          rw [decide_eq_true rfl, ← HNV.out] at hsm
          have HS := Lib.hid hsm; have HN11 := Lib.hid (show w11.ownsRow w7.heap.size 9 1 (.slice a' (k + 1) c') (k + 1) _ from ownsRow_keep HNEXT.out (fun x hx => hb1011.block x (owns_lt HNEXT.out x hx))); have HB11 := Lib.hid hb711
          clear hrc hb10 hb11 hx11 y3 y4 hb1011 hb711 hb8w11 hHR11 hsm g0 g1 gt
          go_wp2_with fail
          refine HS.out.mono ?_
          rintro e w12 ⟨rfl, hb12⟩
          have HB12 := Lib.hid (HB11.out.trans (hb12.mono HB11.out.size))
          have HN12 := Lib.hid (ownsRow_keep HN11.out (fun x hx => hb12.block x (owns_lt HN11.out x hx)))
          clear hb12
          go_wp2_with fail
          go_roundw
          case rel => 
            refine ⟨k + 1, N + nv, a', c', by go_num, rfl, by go_num, hlt, by omega, ?_, ?_, HB12⟩
            · exact Lib.hid (by rw [HSN.out, ← hNs.out, ← HNV.out])
            · exact Lib.hid (by rw [HNX.out, strsV_snoc, show strV m.1 = .string S1 by rw [HS1.out]; rfl]; exact HN12.out)
          case measure => simp [intOf]; omega
        · have hNn : N = nt := by rw [hNs.out, List.take_of_length_le (by rw [← HN.out]; omega), ← HH.out.len, HNT.out]
          obtain ⟨ds, hdsx⟩ : ∃ ds, ds = ms.map Prod.fst := ⟨_, rfl⟩
          have hown := hown.out
          rw [List.take_of_length_le (by rw [← HN.out]; omega), ← hdsx] at hown
          have hrd : RdStrs wr a5 ds := RdStrs.of_owns hown
          have hdl : k = ds.length := by rw [hdsx, List.length_map, ← HN.out]; omega
          have hno : outP ds t = [] := by rw [hdsx]; exact HH.out.none
          have hfl : RdFl wr a6 t := (HR7.out.below hbw.out).rd
          have hdz : ∀ d ∈ ds, d.length ≤ 400000 := by
            intro d hd
            rw [hdsx] at hd
            obtain ⟨m, hm, rfl⟩ := List.mem_map.1 hd
            have := HSM2.out.dir m hm; omega
          have hxt := (hbw.out.block Bt (lt_of_heap HX7.out)).trans HX7.out
          have gt := cell_of_heap hxt 0
          have hxr := HKEEP.out wr (H7.out.trans (hbw.out.mono H7.out.size))
          obtain ⟨B8, hB8⟩ : ∃ b, wr.heap.size = b := ⟨_, rfl⟩
          have hBt : Bt < B8 := by have := lt_of_heap hxt; omega
          have hBr : Br < B8 := by have := lt_of_heap hxr; omega
          have HRD := Lib.hid hrd; have HDL := Lib.hid hdl; have HNO := Lib.hid hno; have HFL := Lib.hid hfl; have HDZ := Lib.hid hdz; have HXT := Lib.hid hxt; have HXR := Lib.hid hxr
          clear hown hrd hdl hno hfl hdz hxt hxr hdsx hNs hNb
          go_wp2_with fail
          refine (outside_any _ a6 a5 nt c6 k c5).mono ?_
          rintro e w9 ⟨rfl, e9⟩
          have hb9 : Below wr.heap.size wr w9 := by rw [e9]; exact ((Below.refl _ _).alloc (Nat.le_refl _) _).alloc (by simp) _
          have hC2 : w9.heap[B8 + 1]? = some (.cells #[.slice a5 k c5] 34 (0, 0)) := by
            rw [e9, ← hB8, show wr.heap.size + 1 = (wr.alloc (.cells #[.slice a6 nt c6] 27)).heap.size by simp]
            exact heap_alloc_new _ _
          have hC1 : w9.heap[B8]? = some (.cells #[.slice a6 nt c6] 27 (0, 0)) := by
            rw [e9, ← hB8, Below.heap_alloc _ _ _ (by simp)]
            exact heap_alloc_new _ _
          have hst := out_stops 2 B8 (B8 + 1) a6 a5 c6 c5 t ds wr w9 (by omega) (by rw [← HNT.out]; exact hC1) (by rw [← HDL.out]; exact hC2) HFL.out HRD.out hb9 (by rw [← HNT.out]; omega) (by rw [← HDL.out]; omega) (fun p hp => by have := (good_len HH.out.good).2 p hp; omega) HDZ.out ⟨lt_of_heap hC1, lt_of_heap hC2⟩
          rw [HNO.out] at hst
          have HST := Lib.hid hst; have HB9 := Lib.hid hb9; have HC2 := Lib.hid (lt_of_heap hC2); have HORD := Lib.hid (And.intro hB8 (And.intro hBt hBr))
          have HXT9 := Lib.hid ((hb9.block Bt (by omega)).trans HXT.out); have HXR9 := Lib.hid ((hb9.block Br (by omega)).trans HXR.out)
          rw [hB8]
          clear gt hb9 hC1 hC2 hst hBt hBr e9
          go_wp2_with fail
          refine (wpIn_wide (n := 3)).1 ?_
          refine wpIn_rangeFunc_ownF rfl (by omega) (gf := 28) (lb := #[.pointer (some ⟨B8, 0, none⟩), .pointer (some ⟨B8 + 1, 0, none⟩)]) rfl trivial enters_out
            HST.out (fun h k => KpO.trans h k) (kpO_b HB9.out.size HC2.out) (Below.refl _ _) (fun _ => rfl)
            (fun _ W => Below w9.heap.size w9 W) (fun _ _ _ => False) (fun s W W' row h hg hr => h.grown hg h.size (fun k e => (hr k e).1)) (fun _ s W W' row h hg hr => h) (Below.refl _ _)
            (fun x => { tmps := #[.slice a n c, undef, .pointer (some ⟨Br, 0, none⟩), .pointer (some ⟨Bt, 0, none⟩), .int .i64 0, .slice a5 k c5, .int .i64 nt, undef, u8, u9, u10, .bool true, .bool false, .slice a n c, .bool false, .tuple #[.agg #[.slice a6 nt c6], .int .i64 0], .slice a n c, .tuple #[.agg #[.slice a6 nt c6], .int .i64 0], .agg #[.slice a6 nt c6], .int .i64 0, .int .i64 0, .bool false, .slice a n c, .int .i64 n, .int .i64 k, .bool false, u26, u27, u28, u29, u30, u31, u32, u33, u34, u35, u36, u37, u38, u39, u40, u41, u42, u43, u44, u45, u46, u47, u48, u49, u50, u51, u52, u53, u54, u55, .agg #[.slice a6 nt c6], .slice a5 k c5, .func (.func 28) #[] #[.pointer (some ⟨B8, 0, none⟩), .pointer (some ⟨B8 + 1, 0, none⟩)], .string ⟨x.toArray⟩, undef, undef, undef, undef, undef], defers := [] }) ?assign ?body ?done ?stop
          case assign =>
            intro l x W K hK
            unfold encS strV
            gi_wp2
            exact hK
          case stop =>
            rintro D c9 pre W hD hp hx hK
            exact hx.elim
          case body =>
            rintro l pre x W h1 hpre
            exact absurd hpre (Nat.not_lt_zero _)
          case done =>
            rintro D xs W hD hxs h1 hK
            have hord := HORD.out
            have hxt := (h1.block Bt (by have := HB9.out.size; omega)).trans HXT9.out
            have hxr := (h1.block Br (by have := HB9.out.size; omega)).trans HXR9.out
            have f0 := cell_of_heap hxt 0
            have r0 := cell_of_heap hxr 0
            have rf := frozen_of_heap hxr
            have hbW : Below w.heap.size w W := HW.out.trans ((HB9.out.trans (h1.mono HB9.out.size)).mono HW.out.size)
            have hszz := hbW.size
            have hszr := HB3.out.size
            have hbD : Below w.heap.size w ((W.setCell ⟨Br, 0, none⟩ (.bool true)).putObj D (.deferred none)) :=
              (hbW.setCell (p := ⟨Br, 0, none⟩) (by have := HSZ.out; simp; omega) (.bool true)).grown (grownBy_putObj' _ D _) (Nat.le_trans hbW.size (by simp [World.setCell])) (fun k e => by obtain rfl : D = k := Option.some.inj e; have := HB9.out.size; have := HW.out.size; omega)
            have hDn : D ≠ Br := by have := HB9.out.size; omega
            have hset : (W.setCell ⟨Br, 0, none⟩ (.bool true)).heap[D]? = some (.deferred (some [])) := (Below.heap_setCell _ _ _ _ (by simpa using hDn)).trans hK
            have k0 := one_cell (.bool true) hxr
            have k2 : ((W.setCell ⟨Br, 0, none⟩ (.bool true)).putObj D (.deferred none)).cell? ⟨Br, 0, none⟩ = some (.bool true) := (World.cell?_of_block (World.putObj_heap_other (by simpa using hDn.symm))).trans k0
            have HBD := Lib.hid hbD; have HSET := Lib.hid hset; have HK1 := Lib.hid k2
            clear hord hxt hxr h1 hbW hbD hset k0 k2 hK hxs hDn hszz hszr
            go_wp2_with fail
            have k2 := HK1.out
            exact marks_ret1 (v := .bool true) rfl HSET.out (by simp [results, Tryd.results6, go_sem, k2]) ⟨rfl, HBD.out⟩
    · have q0 := cell_of_heap (HKEEP.out w7 H7.out) 0
      have qf := frozen_of_heap (HKEEP.out w7 H7.out)
      have HQ := Lib.hid (HRET.out w7 H7.out)
      have hxi : ((x : Int) == 0) = false := beq_eq_false_iff_ne.2 (by omega)
      go_wp2_with fail
      have k9 := HQ.out.1
      exact marks_ret0 (v := .bool true) (by simp [results, Tryd.results6, go_sem, k9]) rfl ⟨rfl, HQ.out.2⟩
  · have q0 := cell_of_heap (HKEEP.out w5 H5.out) 0
    have qf := frozen_of_heap (HKEEP.out w5 H5.out)
    have HQ := Lib.hid (HRET.out w5 H5.out)
    go_wp2_with fail
    have k9 := HQ.out.1
    exact marks_ret0 (v := .bool true) (by simp [results, Tryd.results6, go_sem, k9]) rfl ⟨rfl, HQ.out.2⟩
end Go.Proofs.YtknokfhmkhdieaaDoor
