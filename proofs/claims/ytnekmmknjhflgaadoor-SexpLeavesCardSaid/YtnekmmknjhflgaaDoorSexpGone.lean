/- DERIVED. gone: a range over a node's texts. -/
import Derived.Test.YtnekmmknjhflgaaDoorSexpLeaf
namespace Go.Proofs.YtnekmmknjhflgaaDoor
open Go.RowKit Go.Shelf
set_option linter.unusedVariables false
attribute [local go_sem] Oper.semAt_some

theorem one_cell {w : World} {R : Nat} {u : Value} {T : TypeId} (x : Value) (h : w.heap[R]? = some (.cells #[u] T (0, 0))) : (w.setCell ⟨R, 0, none⟩ x).cell? ⟨R, 0, none⟩ = some x := cell_of_heap (heap_setCell_here (i := 0) x h) 0
theorem enters_leaves : ∀ args w, (callFunc 29 args).run Tryd.prog w = .ok (.enter 29 args) w := enters_of Tryd.func29 (by kernel_rfl) rfl
theorem keeps_below {w w' : World} (h : Below w.heap.size w w') : KeepsOthers w w' := ⟨h.size, fun k o hk _ => (h.block k (Array.getElem?_eq_some_iff.1 hk).1).trans hk⟩
theorem RdStrs.of_rd {w : World} {a : Option Addr} {n c : Nat} {ls : List (List UInt8)} (h : Rd w (.slice a n c) (strsV ls)) : RdStrs w a ls := by
  intro hne
  obtain ⟨a', cap, e, h1, h2, h3⟩ := h
  obtain ⟨rfl, _, rfl⟩ := Value.slice.inj e
  rw [strsV_length] at h1
  have h0 : 0 < ls.length := by
    rcases Nat.eq_zero_or_pos ls.length with h | h
    · exact absurd (List.eq_nil_of_length_eq_zero h) hne
    · exact h
  cases a with
  | none => have := h2 rfl; omega
  | some ad =>
    have key : ∀ (j : Nat) l, ls[j]? = some l → w.cell? (ad.add j) = some (strV l) := fun j x hj => h3 ad rfl j _ (by simp [strsV, hj])
    have hs : ad.spot = none := by
      have := key 0 _ (List.getElem?_eq_getElem h0)
      rw [show ad.add 0 = ad from by simp [Addr.add]] at this
      exact cell_spot this
    obtain ⟨bk, o, s⟩ := ad
    simp only at hs; subst hs
    exact ⟨bk, o, rfl, fun j x hj => by have := key j x hj; rwa [Addr.add_lit] at this⟩
/-- What holds between two rounds. -/
def GoneI (w6 : World) (Bi : Nat) (most : Int) (wl xs : List (List UInt8)) (W : World) : Prop :=
  xs <+: wl ∧ (xs = [] ∨ (xs.length : Int) < most) ∧ W.heap[Bi]? = some (.cells #[.int .i64 xs.length] 3 (0, 0)) ∧ Ch [Bi] w6 W
/-- What a round leaves that stops. -/
def GoneX (w6 : World) (Bi : Nat) (most : Int) (wl : List (List UInt8)) (c : Code) (xs : List (List UInt8)) (W : World) : Prop :=
  ¬ xs <+: wl ∨ (c = .exit 0 ∧ most ≤ xs.length ∧ ((xs.length : Int) = most ∨ xs.length = 1) ∧ W.heap[Bi]? = some (.cells #[.int .i64 xs.length] 3 (0, 0)) ∧ Ch [Bi] w6 W)
theorem ch_own {Bi B : Nat} {w6 W W' : World} {row : Option Nat} (h : Ch [Bi] w6 W) (hg : W.grownBy W' row) (hB : w6.heap.size ≤ B) (hr : ∀ r, row = some r → B ≤ r ∧ ∃ o : Obj, W.heap[r]? = some o ∧ o.isCells = false) : Ch [Bi] w6 W' :=
  h.grown hg (fun k e => .inr (by have := (hr k e).1; omega))
theorem goneI_own {w6 : World} {Bi : Nat} {most : Int} {wl : List (List UInt8)} (h : Bi < w6.heap.size) : OwnFrom w6.heap.size (GoneI w6 Bi most wl) := by
  rintro s W W' row ⟨h1, h2, h3, h4⟩ hg hr
  refine ⟨h1, h2, ?_, ch_own h4 hg (Nat.le_refl _) hr⟩
  rw [hg.block Bi (lt_of_heap h3) (fun e => by have := (hr Bi e.symm).1; omega)]
  exact h3
theorem goneX_own {w6 : World} {Bi : Nat} {most : Int} {wl : List (List UInt8)} (h : Bi < w6.heap.size) (c : Code) : OwnFrom w6.heap.size (GoneX w6 Bi most wl c) := by
  rintro s W W' row (h0 | ⟨h1, h2, h5, h3, h4⟩) hg hr
  · exact .inl h0
  refine .inr ⟨h1, h2, h5, ?_, ch_own h4 hg (Nat.le_refl _) hr⟩
  rw [hg.block Bi (lt_of_heap h3) (fun e => by have := (hr Bi e.symm).1; omega)]
  exact h3
set_option maxRecDepth 100000 in
set_option maxHeartbeats 4000000 in
theorem gone_any (t : T) (w : World) (v0 v1 v2 : Value) (hn : NodeAt w t v0 v1 v2) (hlen : (leavesT t).length ≤ 1000000) (a : Option Addr) (c : Nat) (hr : RdStrs w a (leavesT t)) (most : Int) :
    Calls Tryd.prog 17 #[.agg #[v0, v1, v2], .slice a (leavesT t).length c, .int .i64 most] w (fun e w' => e = .returned (.bool true) ∧ Below w.heap.size w w') := by
  obtain ⟨lf, sx, ka, kn, kc, rfl, rfl, rfl⟩ := hn.form
  obtain ⟨wl, hwl⟩ : ∃ wl, wl = leavesT t := ⟨_, rfl⟩
  rw [← hwl] at hlen hr ⊢
  obtain ⟨n, hnl⟩ : ∃ n, n = wl.length := ⟨_, rfl⟩
  rw [← hnl] at hlen ⊢
  obtain ⟨c0, c1, c2⟩ := box_cells w (.bool lf) (.string sx) (.slice ka kn kc)
  have hb1 : Below w.heap.size w (w.alloc (.cells #[.bool lf, .string sx, .slice ka kn kc] 24)) := (Below.refl _ w).alloc (Nat.le_refl _) _
  have hN1 := heap_alloc_new w (.cells #[.bool lf, .string sx, .slice ka kn kc] 24)
  have hz1 : (w.alloc (.cells #[.bool lf, .string sx, .slice ka kn kc] 24)).heap.size = w.heap.size + 1 := by simp
  obtain ⟨w1, hw1⟩ : ∃ w1, w.alloc (.cells #[.bool lf, .string sx, .slice ka kn kc] 24) = w1 := ⟨_, rfl⟩
  rw [hw1] at hb1 c0 c1 c2 hN1 hz1
  have hb2 : Below w1.heap.size w1 (w1.alloc (.cells #[.slice a n c] 35)) := (Below.refl _ w1).alloc (Nat.le_refl _) _
  have hW2 := heap_alloc_new w1 (.cells #[.slice a n c] 35)
  have hz2 : (w1.alloc (.cells #[.slice a n c] 35)).heap.size = w1.heap.size + 1 := by simp
  obtain ⟨w2, hw2⟩ : ∃ w2, w1.alloc (.cells #[.slice a n c] 35) = w2 := ⟨_, rfl⟩
  rw [hw2] at hb2 hW2 hz2
  have hb3 : Below w2.heap.size w2 (w2.alloc (.cells #[.int .i64 most] 3)) := (Below.refl _ w2).alloc (Nat.le_refl _) _
  have hM3 := heap_alloc_new w2 (.cells #[.int .i64 most] 3)
  have hz3 : (w2.alloc (.cells #[.int .i64 most] 3)).heap.size = w2.heap.size + 1 := by simp
  obtain ⟨w3, hw3⟩ : ∃ w3, w2.alloc (.cells #[.int .i64 most] 3) = w3 := ⟨_, rfl⟩
  rw [hw3] at hb3 hM3 hz3
  have hb4 : Below w3.heap.size w3 (w3.alloc (.cells #[.bool false] 4)) := (Below.refl _ w3).alloc (Nat.le_refl _) _
  have hR4 := heap_alloc_new w3 (.cells #[.bool false] 4)
  have hz4 : (w3.alloc (.cells #[.bool false] 4)).heap.size = w3.heap.size + 1 := by simp
  obtain ⟨w4, hw4⟩ : ∃ w4, w3.alloc (.cells #[.bool false] 4) = w4 := ⟨_, rfl⟩
  rw [hw4] at hb4 hR4 hz4
  have hb5 : Below w4.heap.size w4 (w4.alloc (.cells #[.int .i64 0] 3)) := (Below.refl _ w4).alloc (Nat.le_refl _) _
  have hI5 := heap_alloc_new w4 (.cells #[.int .i64 0] 3)
  have hz5 : (w4.alloc (.cells #[.int .i64 0] 3)).heap.size = w4.heap.size + 1 := by simp
  have hb34 := hb3.trans (hb4.mono hb3.size)
  have hb345 := hb34.trans (hb5.mono hb34.size)
  have hb25 := hb2.trans (hb345.mono hb2.size)
  have hb15 := hb1.trans (hb25.mono hb1.size)
  have hN5 := (hb25.block w.heap.size (by omega)).trans hN1
  have hW5 := (hb345.block w1.heap.size (by omega)).trans hW2
  have hM5 := ((hb4.trans (hb5.mono hb4.size)).block w2.heap.size (by omega)).trans hM3
  have hR5 := (hb5.block w3.heap.size (by omega)).trans hR4
  replace c0 := below_keeps hb25 _ _ c0
  replace c1 := below_keeps hb25 _ _ c1
  replace c2 := below_keeps hb25 _ _ c2
  have HN5 := Lib.hid hN5; have HW5 := Lib.hid hW5; have HM5 := Lib.hid hM5; have HR5 := Lib.hid hR5; have HI5 := Lib.hid hI5; have HB15 := Lib.hid hb15
  have HR := Lib.hid hr; have HN := Lib.hid hn; have HWL := Lib.hid hwl; have HNL := Lib.hid hnl
  have HZ := Lib.hid (And.intro hz1 (And.intro hz2 (And.intro hz3 (And.intro hz4 hz5))))
  clear hb1 hb2 hb3 hb4 hb5 hb34 hb345 hb25 hb15 hN1 hW2 hM3 hR4 hI5 hN5 hW5 hM5 hR5 hr hn hwl hnl hz1 hz2 hz3 hz4 hz5
  refine calls_of_wp_marks Tryd.func17 rfl ?_
  simp only [Tryd.ntmps17, List.size_toArray, List.length_cons, List.length_nil, Nat.reduceAdd, Nat.reduceSub, Array.replicate_succ, Array.replicate_zero, List.push_toArray, List.append_toArray, List.nil_append, List.cons_append]
  go_wp2_with fail
  refine (leaves_any _ _ _ _).mono ?_
  rintro e w6 ⟨rfl, e6⟩
  obtain ⟨z1, z2, z3, z4, z5⟩ := HZ.out
  have hw6 : Below (w4.alloc (.cells #[.int .i64 0] 3)).heap.size (w4.alloc (.cells #[.int .i64 0] 3)) w6 := by rw [e6]; exact (Below.refl _ _).alloc (Nat.le_refl _) _
  have hC6 : w6.heap[(w4.alloc (.cells #[.int .i64 0] 3)).heap.size]? = some (.cells #[.bool lf, .string sx, .slice ka kn kc] 24 (0, 0)) := by rw [e6]; exact heap_alloc_new _ _
  have hW6 := (hw6.block w1.heap.size (by omega)).trans HW5.out
  have hM6 := (hw6.block w2.heap.size (by omega)).trans HM5.out
  have hR6 := (hw6.block w3.heap.size (by omega)).trans HR5.out
  have hI6 := (hw6.block w4.heap.size (by omega)).trans HI5.out
  have hb6 := HB15.out.trans (hw6.mono HB15.out.size)
  have hs6 : w4.heap.size < w6.heap.size := lt_of_heap hI6
  rw [z5] at hC6
  have HC6 := Lib.hid hC6; have HW6 := Lib.hid hW6; have HM6 := Lib.hid hM6; have HR6 := Lib.hid hR6; have HI6 := Lib.hid hI6; have HB6 := Lib.hid hb6; have HS6 := Lib.hid hs6
  clear HN5 HW5 HM5 HR5 HI5 HB15 c0 c1 c2 z1 z2 z3 z4 z5 hw6 hC6 hW6 hM6 hR6 hI6 hb6 hs6
  go_wp2_with fail
  refine (wpIn_wide (n := 3)).1 ?_
  rw [← e6]
  refine wpIn_rangeFunc_ownF rfl (by omega) (gf := 29) (lb := #[.pointer (some ⟨w4.heap.size + 1, 0, none⟩)]) rfl trivial enters_leaves
    (leaves_stops 2 (w4.heap.size + 1) t _ _ _ w w6 (by omega) HC6.out HN.out HB6.out) (fun h k => h.trans k) (belowK_b HB6.out.size) (Below.refl _ _) (fun _ => rfl)
    (GoneI w6 w4.heap.size most wl) (GoneX w6 w4.heap.size most wl) (goneI_own HS6.out) (goneX_own HS6.out) ⟨List.nil_prefix, .inl rfl, HI6.out, Ch.refl _ _⟩
    (fun x => { tmps := #[.agg #[.bool lf, .string sx, .slice ka kn kc], .slice a n c, .int .i64 most, .pointer (some ⟨w.heap.size, 0, none⟩), .pointer (some ⟨w1.heap.size, 0, none⟩), .pointer (some ⟨w2.heap.size, 0, none⟩), .pointer (some ⟨w3.heap.size, 0, none⟩), .pointer (some ⟨w4.heap.size, 0, none⟩), .string ⟨x.toArray⟩, .agg #[.bool lf, .string sx, .slice ka kn kc], .func (.func 29) #[] #[.pointer (some ⟨w4.heap.size + 1, 0, none⟩)], .string ⟨x.toArray⟩, undef, undef, undef, undef, undef, undef, undef, undef, undef, undef, undef, undef, undef, undef, undef, undef, undef, undef, undef, undef, undef, undef, undef, undef, undef, undef, undef, undef, undef, undef, undef, undef, undef, undef], defers := [] }) ?assign ?body ?done ?stop
  case assign =>
    intro l x W K hK
    unfold encS strV
    gi_wp2
    exact hK
  case stop =>
    rintro D c' pre W hD hp hx hK
    rcases hx with hx | ⟨rfl, q1, q2, q3, q4⟩
    · exact absurd (by rw [HWL.out]; exact hp) hx
    obtain ⟨z1, z2, z3, z4, z5⟩ := HZ.out
    have hS6 := HS6.out
    have hwW := (q4.block w1.heap.size (by omega) (by simp; omega)).trans HW6.out
    have hmW := (q4.block w2.heap.size (by omega) (by simp; omega)).trans HM6.out
    have hrW := (q4.block w3.heap.size (by omega) (by simp; omega)).trans HR6.out
    have f0 := cell_of_heap hwW 0
    have m0 := cell_of_heap hmW 0
    have r0 := cell_of_heap hrW 0
    have rf := frozen_of_heap hrW
    have i0 := cell_of_heap q3 0
    have hbW : Below w.heap.size w W := ⟨q4.os.trans HB6.out.os, q4.tape.trans HB6.out.tape, q4.output.trans HB6.out.output, Nat.le_trans HB6.out.size q4.size, fun k hk => (q4.block k (by omega) (by simp; omega)).trans (HB6.out.block k hk)⟩
    have hbD : Below w.heap.size w ((W.setCell ⟨w3.heap.size, 0, none⟩ (.bool true)).putObj D (.deferred none)) :=
      (hbW.setCell (p := ⟨w3.heap.size, 0, none⟩) (by simp; omega) (.bool true)).grown (grownBy_putObj' _ D _) (Nat.le_trans hbW.size (by simp [World.setCell])) (fun k e => by obtain rfl : D = k := Option.some.inj e; omega)
    have hset : (W.setCell ⟨w3.heap.size, 0, none⟩ (.bool true)).heap[D]? = some (.deferred (some [])) := (Below.heap_setCell _ _ _ _ (by simp; omega)).trans hK
    have k0 := one_cell (.bool true) hrW
    have k1 : ((W.setCell ⟨w3.heap.size, 0, none⟩ (.bool true)).putObj D (.deferred none)).cell? ⟨w3.heap.size, 0, none⟩ = some (.bool true) := (World.cell?_of_block (World.putObj_heap_other (by simp; omega))).trans k0
    have HBD := Lib.hid hbD; have HSET := Lib.hid hset; have HK1 := Lib.hid k1
    obtain ⟨q, hq⟩ : ∃ q, q = pre.length := ⟨_, rfl⟩
    rw [← hq] at q1 q2 q3 i0
    clear z1 z2 z3 z4 z5 e6 hw1 hw2 hw3 hw4 hwW hmW hrW q3 q4 hbW hbD hset k0 k1 hK hp hq
    refine wpIn_wide.2 ?_
    by_cases hn0 : q = n
    · subst hn0
      go_wp2_with fail
      have k1 := HK1.out
      refine marks_ret1 (v := .bool true) rfl HSET.out (by simp [results, Tryd.results17, go_sem, k1]) ⟨rfl, HBD.out⟩
    · by_cases hq0 : (q : Int) = most
      · go_wp2_with fail
        have k1 := HK1.out
        refine marks_ret1 (v := .bool true) rfl HSET.out (by simp [results, Tryd.results17, go_sem, k1]) ⟨rfl, HBD.out⟩
      · have hq1 : q = 1 := by omega
        have hm1 : most < 1 := by omega
        subst hq1
        go_wp2_with fail
        have k1 := HK1.out
        refine marks_ret1 (v := .bool true) rfl HSET.out (by simp [results, Tryd.results17, go_sem, k1]) ⟨rfl, HBD.out⟩
  case body =>
    rintro l pre x W ⟨q1, q2, q3, q4⟩ hpre
    obtain ⟨z1, z2, z3, z4, z5⟩ := HZ.out
    have hS6 := HS6.out
    rw [← HWL.out, ← HNL.out] at hpre
    obtain ⟨y, hy⟩ : ∃ y, wl[pre.length]? = some y := ⟨_, List.getElem?_eq_getElem (by rw [← HNL.out]; exact hpre)⟩
    have hwW := (q4.block w1.heap.size (by omega) (by simp; omega)).trans HW6.out
    have hmW := (q4.block w2.heap.size (by omega) (by simp; omega)).trans HM6.out
    have hrW := (q4.block w3.heap.size (by omega) (by simp; omega)).trans HR6.out
    have f0 := cell_of_heap hwW 0
    have m0 := cell_of_heap hmW 0
    have r0 := cell_of_heap hrW 0
    have rf := frozen_of_heap hrW
    have i0 := cell_of_heap q3 0
    have fi := frozen_of_heap q3
    have hn1 : ¬ (w2.heap.size = w4.heap.size) := by omega
    have hn2 : ¬ (w4.heap.size = w2.heap.size) := by omega
    have HQ1 := Lib.hid q1; have HQ2 := Lib.hid q2; have HQ3 := Lib.hid q3; have HQ4 := Lib.hid q4; have HY := Lib.hid hy
    obtain ⟨b, o, rfl, hcs⟩ := HR.out (by intro e; rw [e] at hy; cases hy)
    have hc0 := below_keeps HB6.out _ _ (hcs _ _ hy)
    have hbw : b < w.heap.size := cell_lt (hcs _ _ hy)
    have s0 : W.cell? ⟨b, o + pre.length, none⟩ = some (.string ⟨y.toArray⟩) := (World.cell?_of_block (a := ⟨b, o + pre.length, none⟩) (q4.block b (by omega) (by simp; omega))).trans hc0
    have hc30 : pre.length < n := hpre
    clear hcs hc0 q1 q2 q3 q4 hy hwW hmW hrW z1 z2 z3 z4 z5 e6 hw1 hw2 hw3 hw4
    by_cases hxy : x = y
    · subst hxy
      have hNEXT : pre ++ [x] <+: wl := by
        obtain ⟨r, hr⟩ := HQ1.out
        have := HY.out
        rw [← hr, List.getElem?_append_right (Nat.le_refl _), Nat.sub_self] at this
        cases r with
        | nil => cases this
        | cons r0 r1 =>
          obtain rfl : r0 = x := by simpa using this
          exact ⟨r1, by rw [← hr]; simp⟩
      have HNEXT := Lib.hid hNEXT; clear hNEXT
      have hW2 := heap_setCell_here (i := 0) (.int .i64 ((pre.length : Int) + 1)) HQ3.out
      have hC2 := HQ4.out.setCell (p := ⟨w4.heap.size, 0, none⟩) (by simp) (.int .i64 ((pre.length : Int) + 1))
      have hB2 : Below w.heap.size W (W.setCell ⟨w4.heap.size, 0, none⟩ (.int .i64 ((pre.length : Int) + 1))) := (Below.refl _ W).setCell (by simp; have := HZ.out; omega) _
      have hlen2 : ((pre ++ [x]).length : Int) = (pre.length : Int) + 1 := by simp
      have HW2 := Lib.hid hW2; have HC2 := Lib.hid hC2; have HB2 := Lib.hid hB2; have HL2 := Lib.hid hlen2
      clear hW2 hC2 hB2 hlen2
      have hbn : ¬ n ≤ pre.length := by omega
      by_cases hmo : most ≤ (pre.length : Int) + 1
      · gi_wp2
        refine ⟨KeepsOthers.setCell _ _ _, .inr ⟨rfl, ?_, ?_, ?_, HC2.out⟩⟩
        · rw [HL2.out]; exact hmo
        · rcases HQ2.out with rfl | h
          · exact .inr rfl
          · refine .inl ?_
            rw [HL2.out]; omega
        · rw [HL2.out]; exact HW2.out
      · gi_wp2
        refine ⟨KeepsOthers.setCell _ _ _, HB2.out, HNEXT.out, .inr ?_, ?_, HC2.out⟩
        · rw [HL2.out]; omega
        · rw [HL2.out]; exact HW2.out
    · have HNEXT : ¬ pre ++ [x] <+: wl := by
        rintro ⟨r, hr⟩
        have := HY.out
        rw [← hr, List.append_assoc, List.getElem?_append_right (Nat.le_refl _), Nat.sub_self] at this
        exact hxy (by simpa using this)
      have HNEXT := Lib.hid HNEXT
      have hbn : ¬ n ≤ pre.length := by omega
      have hxb : (x == y) = false := by simpa using hxy
      gi_wp2
      exact ⟨KeepsOthers.setCell _ _ _, .inl HNEXT.out⟩
  case done =>
    rintro D xs W hD hxs ⟨q1, q2, q3, q4⟩ hK
    rw [hxs, ← HWL.out, ← HNL.out] at q3
    obtain ⟨z1, z2, z3, z4, z5⟩ := HZ.out
    have hS6 := HS6.out
    have hwW := (q4.block w1.heap.size (by omega) (by simp; omega)).trans HW6.out
    have hmW := (q4.block w2.heap.size (by omega) (by simp; omega)).trans HM6.out
    have hrW := (q4.block w3.heap.size (by omega) (by simp; omega)).trans HR6.out
    have f0 := cell_of_heap hwW 0
    have m0 := cell_of_heap hmW 0
    have r0 := cell_of_heap hrW 0
    have rf := frozen_of_heap hrW
    have i0 := cell_of_heap q3 0
    have hbW : Below w.heap.size w W := ⟨q4.os.trans HB6.out.os, q4.tape.trans HB6.out.tape, q4.output.trans HB6.out.output, Nat.le_trans HB6.out.size q4.size, fun k hk => (q4.block k (by omega) (by simp; omega)).trans (HB6.out.block k hk)⟩
    have hbD : Below w.heap.size w ((W.setCell ⟨w3.heap.size, 0, none⟩ (.bool true)).putObj D (.deferred none)) :=
      (hbW.setCell (p := ⟨w3.heap.size, 0, none⟩) (by simp; omega) (.bool true)).grown (grownBy_putObj' _ D _) (Nat.le_trans hbW.size (by simp [World.setCell])) (fun k e => by obtain rfl : D = k := Option.some.inj e; omega)
    have hset : (W.setCell ⟨w3.heap.size, 0, none⟩ (.bool true)).heap[D]? = some (.deferred (some [])) := (Below.heap_setCell _ _ _ _ (by simp; omega)).trans hK
    have k0 := one_cell (.bool true) hrW
    have k1 : ((W.setCell ⟨w3.heap.size, 0, none⟩ (.bool true)).putObj D (.deferred none)).cell? ⟨w3.heap.size, 0, none⟩ = some (.bool true) := (World.cell?_of_block (World.putObj_heap_other (by simp; omega))).trans k0
    have HBD := Lib.hid hbD; have HSET := Lib.hid hset; have HK1 := Lib.hid k1
    clear z1 z2 z3 z4 z5 e6 hw1 hw2 hw3 hw4 hwW hmW hrW q1 q2 q3 q4 hbW hbD hset k0 k1 hK hxs
    go_wp2_with fail
    have k1 := HK1.out
    exact marks_ret1 (v := .bool true) rfl HSET.out (by simp [results, Tryd.results17, go_sem, k1]) ⟨rfl, HBD.out⟩
end Go.Proofs.YtnekmmknjhflgaaDoor
