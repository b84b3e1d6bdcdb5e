/- DERIVED. The walk of the reference's Put. -/
import Derived.Test.YtipindjchcmckaaCasRef
namespace Go.Proofs.Ytipindjchcmckaa
open Go.RowKit
set_option linter.unusedVariables false

theorem owns_some {w : World} {base n : Nat} {a : Option Addr} {c : Nat} {xs : List Value} {e : TypeId} {size : Nat} (h : w.ownsRow base e size (.slice a n c) n xs) (hn : ¬ (Value.slice a n c = .slice none 0 0)) : ∃ M, a = some ⟨M, 0, none⟩ ∧ base ≤ M ∧ M < w.heap.size := by
  rcases h.2 with ⟨e, _⟩ | ⟨g, cap, cur, e, hb, hg, _⟩
  · exact absurd e hn
  · obtain ⟨e1, _, _⟩ := Value.slice.inj e
    exact ⟨g, e1, hb, lt_of_heap hg⟩
theorem RdStrs.of_rd {w : World} {a : Option Addr} {c : Nat} {ls : List (List UInt8)} (h : Rd w (.slice a ls.length c) (strsV ls)) : RdStrs w a ls := by
  intro hne
  obtain ⟨a', cap, e, h1, h2, h3⟩ := h
  obtain ⟨rfl, _, rfl⟩ := Value.slice.inj e
  rw [strsV_length] at h1
  have h0 : 0 < ls.length := by
    rcases Nat.eq_zero_or_pos ls.length with h | h
    · exact absurd (List.eq_nil_of_length_eq_zero h) hne
    · exact h
  cases a with
  | none => have := h2 rfl; omega
  | some ad =>
    have key : ∀ (j : Nat) l, ls[j]? = some l → w.cell? (ad.add j) = some (strV l) := fun j x hj => h3 ad rfl j _ (by simp [strsV, hj])
    have hs : ad.spot = none := by
      have := key 0 _ (List.getElem?_eq_getElem h0)
      rw [show ad.add 0 = ad from by simp [Addr.add]] at this
      exact cell_spot this
    obtain ⟨bk, o, s⟩ := ad
    simp only at hs; subst hs
    exact ⟨bk, o, rfl, fun j x hj => by have := key j x hj; rwa [Addr.add_lit] at this⟩
theorem owns_none (W : World) (t : TypeId) : (W.alloc (.cells #[] t)).ownsRow W.heap.size t 1 (.slice (some ⟨W.heap.size, 0, none⟩) 0 0) 0 [] :=
  ⟨rfl, .inr ⟨W.heap.size, 0, #[], rfl, Nat.le_refl _, heap_alloc_new W _, Nat.le_refl _, by unfold maxLen; omega, rfl, rfl⟩⟩
theorem two_cells {w : World} {R : Nat} {u v : Value} {T : TypeId} (x y : Value) (h : w.heap[R]? = some (.cells #[u, v] T (0, 0))) :
    (w.setCell ⟨R, 0, none⟩ x).cell? ⟨R, 0, none⟩ = some x ∧ ((w.setCell ⟨R, 0, none⟩ x).setCell ⟨R, 1, none⟩ y).cell? ⟨R, 1, none⟩ = some y := by
  have h1 := heap_setCell_here (i := 0) x h
  have h2 := heap_setCell_here (i := 1) y h1
  exact ⟨cell_of_heap h1 0, cell_of_heap h2 1⟩
theorem below_set {w w1 : World} {R : Nat} (x y : Value) (h : Below w.heap.size w w1) (hR : w.heap.size ≤ R) : Below w.heap.size w ((w1.setCell ⟨R, 0, none⟩ x).setCell ⟨R, 1, none⟩ y) :=
  (h.setCell (p := ⟨R, 0, none⟩) hR x).setCell (p := ⟨R, 1, none⟩) hR y
/-- What the reference's Put says, and has behind it. -/
def RputRel (wd : Int) (ps : List Pr) (objs : List (List UInt8)) (b key : List UInt8) (err : Int) (objs' : List (List UInt8)) : Prop :=
  (err = 3 ∧ 65536 < b.length ∧ key = [] ∧ objs' = objs) ∨ (err = 72 ∧ b.length ≤ 65536 ∧ (∃ old, (casKey wd b, old) ∈ ps ∧ old ≠ b) ∧ key = [] ∧ objs' = objs) ∨
  (err = 0 ∧ b.length ≤ 65536 ∧ key = casKey wd b ∧ ((casKey wd b, b) ∈ ps ∧ objs' = objs ∨ (∀ v, (casKey wd b, v) ∉ ps) ∧ objs' = objs ++ [b]))
def RputTo (wd : Int) (ps : List Pr) (a : Option Addr) (objs : List (List UInt8)) (b : List UInt8) (w : World) (e : Ending) (w' : World) : Prop :=
  ∃ a' c' objs' key err, e = .returned (.tuple #[.agg #[.int .i64 wd, .slice a' objs'.length c'], strV key, .int .i64 err]) ∧ RputRel wd ps objs b key err objs' ∧ Rd w' (.slice a' objs'.length c') (strsV objs') ∧ Below w.heap.size w w' ∧ (a' = a ∨ ∃ ad, a' = some ad ∧ w.heap.size ≤ ad.block ∧ ad.block < w'.heap.size)
set_option maxRecDepth 100000 in
set_option maxHeartbeats 2000000 in
theorem rput_any (w : World) (wd : Int) (ps : List Pr) (a : Option Addr) (c : Nat) (objs : List (List UInt8)) (ho : ObjP wd ps objs) (hr : Rd w (.slice a objs.length c) (strsV objs)) (hl : objs.length ≤ 999999) (b : List UInt8) (hb : b.length ≤ 140737488351232) :
    Calls Try.prog 12 #[.agg #[.int .i64 wd, .slice a objs.length c], strV b] w (RputTo wd ps a objs b w) := by
  have HR := Lib.hid hr; have HO := Lib.hid ho; clear hr ho
  obtain ⟨w0, hw0⟩ : ∃ w0, w0 = ((w.alloc (.cells #[.int .i64 wd, .slice a objs.length c] 28)).alloc (.cells #[.int .i64 0, .slice none 0 0] 28)) := ⟨_, rfl⟩
  have hb0 : Below w.heap.size w w0 := by rw [hw0]; exact ((Below.refl _ w).alloc (Nat.le_refl _) _).alloc (by simp) _
  have hz0 : w0.heap.size = w.heap.size + 2 := by rw [hw0]; simp
  have hbx : w0.heap[w.heap.size]? = some (.cells #[.int .i64 wd, .slice a objs.length c] 28 (0, 0)) := by rw [hw0]; exact (Below.heap_alloc _ _ _ (by simp)).trans (heap_alloc_new w _)
  have hbr : w0.heap[w.heap.size + 1]? = some (.cells #[.int .i64 0, .slice none 0 0] 28 (0, 0)) := by
    rw [hw0]
    have := heap_alloc_new (w.alloc (.cells #[.int .i64 wd, .slice a objs.length c] 28)) (.cells #[.int .i64 0, .slice none 0 0] 28)
    rwa [World.size_alloc] at this
  have HT := Lib.hid (rtry_any w0 wd ps a c objs HO.out ((RdStrs.of_rd HR.out).below hb0) (by omega) b hb)
  have HB0 := Lib.hid hb0; have HBX := Lib.hid hbx; have HBR := Lib.hid hbr
  rw [hw0] at HT
  have HW0 := Lib.hid hw0; have HZ0 := Lib.hid hz0
  clear hb0 hz0 hbx hbr hw0
  go_enter Try.func12, Try.ntmps12
  go_wp2_with fail
  refine HT.out.mono ?_
  rintro e w1 ⟨err, rfl, hrr, hb1⟩
  rw [← HW0.out] at hb1
  have hbx1 : w1.heap[w.heap.size]? = _ := (hb1.block w.heap.size (by rw [HZ0.out]; omega)).trans HBX.out
  have hbr1 : w1.heap[w.heap.size + 1]? = _ := (hb1.block (w.heap.size + 1) (by rw [HZ0.out]; omega)).trans HBR.out
  have hs1 : w.heap.size + 2 ≤ w1.heap.size := by have := hb1.size; rw [HZ0.out] at this; exact this
  have HB1 := Lib.hid (HB0.out.trans (hb1.mono HB0.out.size))
  have HRR := Lib.hid hrr
  have c0 := cell_of_heap hbx1 0
  have c1 := cell_of_heap hbx1 1
  have r0 := cell_of_heap hbr1 0
  have r1 := cell_of_heap hbr1 1
  have rf := frozen_of_heap hbr1
  have HBX1 := Lib.hid hbx1; have HBR1 := Lib.hid hbr1
  clear hb1 hbx1 hbr1 hrr HT HBX HBR HW0 HZ0
  by_cases he : err = 0
  · subst he
    obtain ⟨hble, hin⟩ : b.length ≤ 65536 ∧ ((casKey wd b, b) ∈ ps ∨ ∀ v, (casKey wd b, v) ∉ ps) := by
      rcases HRR.out with ⟨h, _⟩ | ⟨h, _⟩ | ⟨_, h1, h2⟩
      · cases h
      · cases h
      · exact ⟨h1, h2⟩
    have HIN := Lib.hid hin
    clear hin HRR
    have hk := rkey_any w1.drew wd (.slice a objs.length c) rfl b hb
    have HK := Lib.hid hk; clear hk
    go_wp2_with fail
    go_region_held3 (fun w' => w'.cell? ⟨w.heap.size, 0, none⟩ = some (.int .i64 wd) ∧ w'.cell? ⟨w.heap.size, 1, none⟩ = some (.slice a objs.length c)) (first | exact ⟨z0, z1⟩ | exact ⟨y0, y1⟩ | exact ⟨c0, c1⟩)
      (first | (go_at_call 14; refine HK.out.mono ?_; rintro e w2 ⟨rfl, hb2⟩; have hb2 := below_drew hb2; have hbx2 : w2.heap[w.heap.size]? = _ := (hb2.block w.heap.size (by omega)).trans HBX1.out; have y0 := cell_of_heap hbx2 0; have y1 := cell_of_heap hbx2 1; have HB2 := Lib.hid (HB1.out.trans (hb2.mono HB1.out.size)); have HBX2 := Lib.hid hbx2; have hbr2 : w2.heap[w.heap.size + 1]? = _ := (hb2.block (w.heap.size + 1) (by omega)).trans HBR1.out; have HBR2 := Lib.hid hbr2; have hs2 := hb2.size; clear hb2 hbx2 hbr2) | (go_at_call 17; refine (rget_any w2 wd ps a c objs HO.out ((RdStrs.of_rd HR.out).below HB2.out) (by omega) (casKey wd b)).mono ?_; rintro e w3 ⟨val, bb, rfl, g1, g2, g3⟩; have hbx3 : w3.heap[w.heap.size]? = _ := (g3.block w.heap.size (lt_of_heap HBX2.out)).trans HBX2.out; have z0 := cell_of_heap hbx3 0; have z1 := cell_of_heap hbx3 1; have hbr3 : w3.heap[w.heap.size + 1]? = _ := (g3.block (w.heap.size + 1) (lt_of_heap HBR2.out)).trans HBR2.out; have HBX3 := Lib.hid hbx3; have HBR3 := Lib.hid hbr3; have hs3 := g3.size; clear hbx3 hbr3; have G1 := Lib.hid g1; have G2 := Lib.hid g2; have G3 := Lib.hid (HB2.out.trans (g3.mono HB2.out.size)); clear g1 g2 g3))
    all_goals
      clear c0 c1 r0 r1 rf y0 y1 HK
      cases bb
      · have hno := (G2.out rfl).2
        have HNO := Lib.hid hno
        clear hno G1 G2
        have hs4 : w.heap.size + 2 ≤ w3.heap.size := by omega
        have ma : (w3.alloc (.cells #[] 9)).heap[w.heap.size]? = _ := (Below.heap_alloc w3 _ _ (lt_of_heap HBX3.out)).trans HBX3.out
        have mr : (w3.alloc (.cells #[] 9)).heap[w.heap.size + 1]? = _ := (Below.heap_alloc w3 _ _ (lt_of_heap HBR3.out)).trans HBR3.out
        have m1 := cell_of_heap ma 1
        have hra := (HR.out.below (G3.out.trans ((Below.refl w3.heap.size w3).alloc (Nat.le_refl _) (.cells #[] 9) |>.mono G3.out.size))).src (P := Try.prog) Try.underlying22 (strsV_one objs)
        rw [strsV_length] at hra
        have HSRC := Lib.hid hra; have MA := Lib.hid ma; have MR := Lib.hid mr
        obtain ⟨i9, hi, hz0, hz1, hz2⟩ := info_parts info9
        clear hra ma mr z0 z1
        unfold strV
        go_wp2_with (first
          | (at_builtin; refine wpList_append_srcs rfl (.tmp 27) (.tmp 29) 22 22 rfl w3.heap.size 9 i9 (.string ByteArray.empty) 1 16 Try.underlying22 hi hz0 hz1 hz2 rfl (by decide) (.slice (some ⟨w3.heap.size, 0, none⟩) 0 0) rfl 0 [] (owns_none w3 9) (.slice a objs.length c) rfl _ _ HSRC.out (by unfold maxLen; omega) (by omega) (by simp) ?_; intro a5 c5 w5 hown5 hgrow5 _ _; simp only [Nat.zero_add, List.nil_append] at hown5; have hb5 := hgrow5.block w.heap.size (by simp; omega) (by simp [Value.ownBlock]; omega); have hr5 := hgrow5.block (w.heap.size + 1) (by simp; omega) (by simp [Value.ownBlock]; omega); have hz5 := hgrow5.size; have G5 := Lib.hid hgrow5; have B5 := Lib.hid (hb5.trans MA.out); have R5 := Lib.hid (hr5.trans MR.out); have O5 := Lib.hid (ownsRow_keep hown5 (fun g hg => Below.heap_alloc w5 (.cells #[strV b] 9) _ (owns_lt hown5 g hg))); have GE5 := Lib.hid (owns_ge hown5); simp at hz5; clear hb5 hr5 hgrow5 hown5 m1 hz5)
          | (at_builtin; refine wpList_append_srcs rfl (.tmp 30) (.tmp 32) 22 22 rfl w3.heap.size 9 i9 (.string ByteArray.empty) 1 16 Try.underlying22 hi hz0 hz1 hz2 rfl (by decide) (.slice a5 objs.length c5) rfl _ _ O5.out _ rfl _ _ (one_src w5 b _) (by unfold maxLen; omega) (by omega) (by have := G5.out.size; simp at this ⊢; omega) ?_; intro a6 c6 w6 hown6 hgrow6 _ _; have hlt0 := lt_of_heap B5.out; have hlt1 := lt_of_heap R5.out; have hb6 := (hgrow6.block w.heap.size (by simp; omega) (fun e => by have := GE5.out _ e.symm; omega)).trans ((Below.heap_alloc w5 _ _ hlt0).trans B5.out); have hr6 := (hgrow6.block (w.heap.size + 1) (by simp; omega) (fun e => by have := GE5.out _ e.symm; omega)).trans ((Below.heap_alloc w5 _ _ hlt1).trans R5.out); have n1 := cell_of_heap hb6 1; have nf := frozen_of_heap hb6; have G6 := Lib.hid hgrow6; have B6 := Lib.hid hb6; have R6 := Lib.hid hr6; have O6 := Lib.hid hown6; clear hlt0 hlt1 hb6 hr6 hgrow6 hown6))
        have ch0 := (Ch.of_below G3.out []).alloc (.cells #[] 9)
        have ch1 := ch0.grown G5.out (fun k hk => .inr (by have : w3.heap.size = k := (by simpa [Value.ownBlock] using hk); omega))
        have ch2 := ch1.alloc (.cells #[strV b] 9)
        have ch3 := ch2.grown G6.out (fun k hk => .inr (by have := GE5.out k hk; omega))
        have hch := ch3.setCell (p := ⟨w.heap.size, 1, none⟩) (.inr (Nat.le_refl _)) (.slice a6 (objs.length + 1) c6)
        clear ch0 ch1 ch2 ch3
        have hb7 : (w6.setCell ⟨w.heap.size, 1, none⟩ (.slice a6 (objs.length + 1) c6)).heap[w.heap.size]? = some (.cells #[.int .i64 wd, .slice a6 (objs.length + 1) c6] 28 (0, 0)) := heap_setCell_here _ B6.out
        have hr7 : (w6.setCell ⟨w.heap.size, 1, none⟩ (.slice a6 (objs.length + 1) c6)).heap[w.heap.size + 1]? = _ := (Below.heap_setCell _ _ _ _ (by simp)).trans R6.out
        have hrd7 : (w6.setCell ⟨w.heap.size, 1, none⟩ (.slice a6 (objs.length + 1) c6)).ownsRow w3.heap.size 9 1 (.slice a6 (objs.length + 1) c6) (objs.length + 1) (strsV (objs ++ [b])) := by
          have e1 : strsV (objs ++ [b]) = strsV objs ++ [strV b] := by simp [strsV]
          rw [e1]
          exact ownsRow_keep O6.out (fun g hg => Below.heap_setCell _ _ _ _ (by have := owns_ge O6.out g hg; simp; omega))
        generalize w6.setCell ⟨w.heap.size, 1, none⟩ (.slice a6 (objs.length + 1) c6) = w7 at hch hb7 hr7 hrd7 ⊢
        have x0 := cell_of_heap hb7 0
        have x1 := cell_of_heap hb7 1
        have q0 := cell_of_heap hr7 0
        have q1 := cell_of_heap hr7 1
        have qf := frozen_of_heap hr7
        have hs7 := lt_of_heap hr7
        have HB7 := Lib.hid hch.below; have HBX7 := Lib.hid hb7; have HBR7 := Lib.hid hr7; have HRD7 := Lib.hid hrd7
        have HK := Lib.hid (rkey_any w7.drew wd (.slice a6 (objs.length + 1) c6) rfl b hb)
        clear hch hb7 hr7 hrd7 n1 nf
        go_region_law (first | (go_simp; go_at_call 14; refine HK.out.mono ?_; rintro e w8 ⟨rfl, hb8⟩; have hb8 := below_drew hb8; have hbx8 : w8.heap[w.heap.size]? = _ := (hb8.block w.heap.size (by omega)).trans HBX7.out; have p0 := cell_of_heap hbx8 0; have p1 := cell_of_heap hbx8 1; have hbr8 : w8.heap[w.heap.size + 1]? = _ := (hb8.block (w.heap.size + 1) (by omega)).trans HBR7.out; have r0 := cell_of_heap hbr8 0; have r1 := cell_of_heap hbr8 1; have rf := frozen_of_heap hbr8; have HBR8 := Lib.hid hbr8; have HB8 := Lib.hid (HB7.out.trans (hb8.mono HB7.out.size)); have HRD8 := Lib.hid (ownsRow_keep HRD7.out (fun g hg => hb8.block g (owns_lt HRD7.out g hg))); clear hb8 hbx8 hbr8))
        all_goals
          obtain ⟨k0, k1⟩ := two_cells (.int .i64 wd) (.slice a6 (objs.length + 1) c6) HBR8.out
          go_wp2_with fail
          refine bodyPost_ret (v := .tuple #[.agg #[.int .i64 wd, .slice a6 (objs.length + 1) c6], strV (casKey wd b), .int .i64 0]) (by simp [results, Try.results12, go_sem, k0, k1]) rfl ?_
          have hbf := below_set (.int .i64 wd) (.slice a6 (objs.length + 1) c6) HB8.out (Nat.le_succ _)
          have hrdf := Rd.of_owns (ownsRow_keep (w' := (w8.setCell ⟨w.heap.size + 1, 0, none⟩ (.int .i64 wd)).setCell ⟨w.heap.size + 1, 1, none⟩ (.slice a6 (objs.length + 1) c6)) HRD8.out (fun g hg => by
            have := owns_ge HRD8.out g hg
            exact (Below.heap_setCell _ _ _ _ (by simp; omega)).trans (Below.heap_setCell _ _ _ _ (by simp; omega))))
          refine ⟨a6, c6, objs ++ [b], casKey wd b, 0, by rw [List.length_append]; rfl, .inr (.inr ⟨rfl, hble, rfl, .inr ⟨HNO.out, rfl⟩⟩), by rw [List.length_append]; exact hrdf, hbf, .inr ?_⟩
          obtain ⟨M, rfl, hM1, hM2⟩ := owns_some HRD8.out (by intro e; cases e)
          exact ⟨_, rfl, by show w.heap.size ≤ M; omega, by show M < _; simpa using hM2⟩
      · have hyes := G1.out rfl
        have HY : Hid ((casKey wd b, b) ∈ ps) := by
          rcases HIN.out with h | h
          · exact h
          · exact absurd hyes (h val)
        clear hyes G1 G2
        have HK := Lib.hid (rkey_any w3.drew wd (.slice a objs.length c) rfl b hb)
        have r0 := cell_of_heap HBR3.out 0
        have r1 := cell_of_heap HBR3.out 1
        have rf := frozen_of_heap HBR3.out
        go_wp2_with fail
        go_region_law (first | (go_simp; go_at_call 14; refine HK.out.mono ?_; rintro e w4 ⟨rfl, hb4⟩; have hb4 := below_drew hb4; have hbx4 : w4.heap[w.heap.size]? = _ := (hb4.block w.heap.size (by omega)).trans HBX3.out; have x0 := cell_of_heap hbx4 0; have x1 := cell_of_heap hbx4 1; have hbr4 : w4.heap[w.heap.size + 1]? = _ := (hb4.block (w.heap.size + 1) (by omega)).trans HBR3.out; have q0 := cell_of_heap hbr4 0; have q1 := cell_of_heap hbr4 1; have qf := frozen_of_heap hbr4; have HBR4 := Lib.hid hbr4; have HB4 := Lib.hid (G3.out.trans (hb4.mono G3.out.size)); clear hb4 hbx4 hbr4))
        all_goals
          obtain ⟨k0, k1⟩ := two_cells (.int .i64 wd) (.slice a objs.length c) HBR4.out
          go_wp2_with fail
          refine bodyPost_ret (v := .tuple #[.agg #[.int .i64 wd, .slice a objs.length c], strV (casKey wd b), .int .i64 0]) (by simp [results, Try.results12, go_sem, k0, k1]) rfl ?_
          have hbf := below_set (.int .i64 wd) (.slice a objs.length c) HB4.out (Nat.le_succ _)
          exact ⟨a, c, objs, casKey wd b, 0, rfl, .inr (.inr ⟨rfl, hble, rfl, .inl ⟨HY.out, rfl⟩⟩), HR.out.below hbf, hbf, .inl rfl⟩
  · have hq : (err != 0) = true := by simpa using he
    obtain ⟨k0, k1⟩ := two_cells (.int .i64 wd) (.slice a objs.length c) HBR1.out
    go_wp2
    refine bodyPost_ret (v := .tuple #[.agg #[.int .i64 wd, .slice a objs.length c], .string ⟨#[]⟩, .int .i64 err]) (by simp [results, Try.results12, go_sem, k0, k1]) rfl ?_
    have hbf := below_set (.int .i64 wd) (.slice a objs.length c) HB1.out (Nat.le_succ _)
    refine ⟨a, c, objs, [], err, rfl, ?_, HR.out.below hbf, hbf, .inl rfl⟩
    rcases HRR.out with ⟨h, h2⟩ | ⟨h, h1, h2⟩ | ⟨h, _⟩
    · exact .inl ⟨h, h2, rfl, rfl⟩
    · exact .inr (.inl ⟨h, h1, h2, rfl, rfl⟩)
    · exact absurd h he
end Go.Proofs.Ytipindjchcmckaa
