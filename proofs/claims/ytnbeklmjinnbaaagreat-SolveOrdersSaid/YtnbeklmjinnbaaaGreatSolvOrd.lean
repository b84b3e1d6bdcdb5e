/- DERIVED. The answer does not hang on the order of the pool, walked. (Printed by a program.) -/
import Derived.Test.YtnbeklmjinnbaaaGreatSolLw
namespace Go.Proofs.YtnbeklmjinnbaaaGreat
open Go.RowKit Go.Shelf
set_option linter.unusedVariables false
set_option linter.unusedSimpArgs false
set_option maxRecDepth 100000

def nosuch : List UInt8 := [110, 111, 45, 115, 117, 99, 104, 45, 110, 97, 109, 101]
theorem src_pk2 {w : World} {b : Nat} {q : Pk} {S : ByteArray} {t : TypeId} (hS : strV q.1 = .string S) (h : w.heap[b]? = some (.cells #[.string S, .int .i64 q.2.1, .int .i64 q.2.2.1, .int .i64 q.2.2.2, .string S, .int .i64 q.2.1, .int .i64 q.2.2.1, .int .i64 q.2.2.2] t (0, 0))) : Src Tryz.prog 4 28 (.slice (some ⟨b, 0, none⟩) 2 2) 2 (pkL q ++ pkL q) w :=
  Src.ofSlice _ Tryz.underlying28 ⟨b, 0, none⟩ 2 2 _ rfl (fun j u hj => by
    rw [Addr.add_lit, Nat.zero_add, cell_of_heap h]
    unfold pkL at hj
    rw [hS] at hj
    simpa using hj) (fun u hu => by
    rcases List.mem_append.1 hu with hu | hu <;> exact pkL_one q u hu)
theorem pkRow_two {base m : Nat} {w : World} {v : Value} {L : List Pk} {q : Pk} (hm : m = L.length) (h : w.ownsRow base 26 4 v (m + 2) (L.flatMap pkL ++ (pkL q ++ pkL q))) : PkRow base w v (L ++ [q, q]) := by
  unfold PkRow
  rw [List.length_append, List.flatMap_append, ← hm]
  simpa using h
theorem drop_here {ps : List Pk} {k : Nat} {q : Pk} (h : ps[k]? = some q) : ps.drop k = q :: ps.drop (k + 1) := by
  rw [List.drop_eq_getElem_cons (List.getElem?_eq_some_iff.1 h).1, (List.getElem?_eq_some_iff.1 h).2]
set_option maxHeartbeats 32000000 in
theorem orders_any (w : World) (cs : List Value) (x : Cs) (hx : CaseAt w cs x) (mr : Int) :
    Calls Tryz.prog 6 #[.agg cs.toArray, .int .i64 mr] w (fun e w' => e = .returned (.bool true) ∧ Below w.heap.size w w') := by
  have hbg := fun W (hW : Below w.heap.size w W) => begun_any W cs x (hx.below hW)
  obtain ⟨v0, v1, v2, rfl, hsc, hpl, hle, hmo, hmn, hlw⟩ := hx
  obtain ⟨a0, c0, rfl, -⟩ := hsc
  obtain ⟨a5, c5, rfl, -⟩ := hle
  obtain ⟨a6, c6, rfl, -⟩ := hmo
  replace hbg : ∀ W, Below w.heap.size w W → Calls _ _ #[.agg #[.slice a0 x.script.length c0, strV x.p.1, .int .i64 x.p.2.1, .int .i64 x.p.2.2.1, .int .i64 x.p.2.2.2, .slice a5 x.less.length c5, .slice a6 x.more.length c6, .int .i64 x.left]] W _ := hbg
  show Calls _ _ #[.agg #[.slice a0 x.script.length c0, strV x.p.1, .int .i64 x.p.2.1, .int .i64 x.p.2.2.1, .int .i64 x.p.2.2.2, .slice a5 x.less.length c5, .slice a6 x.more.length c6, .int .i64 x.left], .int .i64 mr] _ _
  obtain ⟨T, -, hT, -, -⟩ := strV_is x.p.1
  rw [hT] at hbg ⊢
  obtain ⟨n0, hn0⟩ : ∃ y, y = x.script.length := ⟨_, rfl⟩
  obtain ⟨n5, hn5⟩ : ∃ y, y = x.less.length := ⟨_, rfl⟩
  obtain ⟨n6, hn6⟩ : ∃ y, y = x.more.length := ⟨_, rfl⟩
  obtain ⟨p1, hp1⟩ : ∃ y, y = x.p.2.1 := ⟨_, rfl⟩
  obtain ⟨p2, hp2⟩ : ∃ y, y = x.p.2.2.1 := ⟨_, rfl⟩
  obtain ⟨p3, hp3⟩ : ∃ y, y = x.p.2.2.2 := ⟨_, rfl⟩
  obtain ⟨lf, hlf⟩ : ∃ y, y = x.left := ⟨_, rfl⟩
  rw [← hn0, ← hn5, ← hn6, ← hp1, ← hp2, ← hp3, ← hlf] at hbg ⊢
  obtain ⟨w0, hw0, hb0, hx0, y1, y2⟩ := any_block w #[.slice a0 n0 c0, .string T, .int .i64 p1, .int .i64 p2, .int .i64 p3, .slice a5 n5 c5, .slice a6 n6 c6, .int .i64 lf] 30
  have HBG := Lib.hid hbg; have HB0 := Lib.hid hb0; have G10 := Lib.hid hx0; have HT := Lib.hid (And.intro hT (And.intro hp1 (And.intro hp2 hp3)))
  clear hbg hb0 hx0 hT hn0 hn5 hn6 hp1 hp2 hp3 hlf hpl hmn hlw y1 y2
  go_enter Tryz.func6, Tryz.ntmps6
  go_wp2_with fail
  refine (alive_any _).mono ?_
  rintro e w1 ⟨rfl, h1⟩
  have G11 := Lib.hid ((h1.block _ (lt_of_heap G10.out)).trans G10.out)
  have HB1 := Lib.hid (HB0.out.trans (h1.mono HB0.out.size))
  clear h1
  have u0 := cell_of_heap G11.out 0
  have u1 := cell_of_heap G11.out 1
  have u2 := cell_of_heap G11.out 2
  have u3 := cell_of_heap G11.out 3
  have u4 := cell_of_heap G11.out 4
  have u5 := cell_of_heap G11.out 5
  have u6 := cell_of_heap G11.out 6
  have u7 := cell_of_heap G11.out 7
  go_wp2_with fail
  refine (HBG.out _ HB1.out).mono ?_
  rintro e w2 ⟨h2, B, a1, n1, c1, a2, n2, c2, ap, np, cp, ok, rfl, hok⟩
  obtain ⟨w3, hw3, hb3, hx3, y1, y2⟩ := any_block w2 #[.slice a1 n1 c1, .slice a2 n2 c2] 35
  obtain ⟨b4, hb4⟩ : ∃ b, w2.heap.size = b := ⟨_, rfl⟩
  rw [hb4] at hx3
  have h23 := h2.trans (hb3.mono h2.size)
  have G13 := Lib.hid ((h23.block _ (lt_of_heap G11.out)).trans G11.out)
  have G43 := Lib.hid hx3; have HB3 := Lib.hid (HB1.out.trans (h23.mono HB1.out.size)); have H23 := Lib.hid hb3; have HOK := Lib.hid hok
  clear h2 hb3 hx3 h23 hok y1 y2 u0 u1 u2 u3 u4 u5 u6 u7
  have u0 := cell_of_heap G13.out 0
  have u1 := cell_of_heap G13.out 1
  have u2 := cell_of_heap G13.out 2
  have u3 := cell_of_heap G13.out 3
  have u4 := cell_of_heap G13.out 4
  have u5 := cell_of_heap G13.out 5
  have u6 := cell_of_heap G13.out 6
  have u7 := cell_of_heap G13.out 7
  have s0 := cell_of_heap G43.out 0
  have s1 := cell_of_heap G43.out 1
  cases ok
  · go_wp2_with fail
    go_ret
    exact ⟨rfl, HB3.out⟩
  by_cases hl : 400 < lf
  · go_wp2_with fail
    go_ret
    exact ⟨rfl, HB3.out⟩
  by_cases hm0 : mr < 0
  · go_wp2_with fail
    go_ret
    exact ⟨rfl, HB3.out⟩
  by_cases hm4 : 400 < mr
  · go_wp2_with fail
    go_ret
    exact ⟨rfl, HB3.out⟩
  obtain ⟨st, pool, htwo, hrow, hpl⟩ := HOK.out rfl
  have hP := (hrow.below H23.out).all (by omega)
  have TWO := Lib.hid (htwo.below H23.out); have HPOOL := Lib.hid hP; have HROW := Lib.hid (hrow.below H23.out); have HPL := Lib.hid hpl
  clear htwo hrow hP hpl
  have hform := HROW.out.form
  obtain ⟨_, _, e9⟩ := hform
  obtain ⟨-, hnp, -⟩ := Value.slice.inj e9
  clear e9
  have hnp2 : np ≤ 200 := by have := HPL.out; omega
  obtain ⟨iP, hiP, hzP0, hzP1, hzP2⟩ := info_parts infoPkg
  have HI := Lib.hid (And.intro hiP (And.intro hzP0 (And.intro hzP1 hzP2)))
  have HNP := Lib.hid hnp
  clear hnp hiP hzP0 hzP1 hzP2
  go_wp2_with fail
  go_loopw [9, 10] (fun y i wr => ∃ (j m : Nat) (L : List Pk) (a : Option Addr) (cc : Nat), y = .slice a m cc ∧ i = .int .i64 ((j : Int) - 1) ∧ j ≤ np ∧ m + 3 * j ≤ 3 * np ∧ Hid (m = L.length) ∧ Hid (∀ y ∈ st.pkgs, y ∈ L ↔ y ∈ pool.drop j) ∧ Hid (PkRow w3.heap.size wr (.slice a m cc) L) ∧ Hid (Below w3.heap.size w3 wr)) (fun _ i _ => (intOf i + 1).toNat)
  case atStart => exact ⟨np, 0, [], none, 0, rfl, rfl, Nat.le_refl _, by omega, Lib.hid rfl, Lib.hid (fun y _ => by rw [HNP.out, List.drop_length]), Lib.hid (PkRow.nil _ _), Lib.hid (Below.refl _ _)⟩
  case round =>
    obtain ⟨j, m, L, a, cc, rfl, rfl, hj, hmj, hm, hin, hrow, hbw⟩ := hrel
    rcases j with _ | jj
    · obtain ⟨w4, hw4⟩ : ∃ W, W = wr := ⟨_, rfl⟩
      subst hw4
      have G14 := Lib.hid ((hbw.out.block _ (lt_of_heap G13.out)).trans G13.out); have G44 := Lib.hid ((hbw.out.block _ (lt_of_heap G43.out)).trans G43.out)
      have TWO4 := Lib.hid (TWO.out.below hbw.out); have HPO4 := Lib.hid (HPOOL.out.below hbw.out); have HB4 := Lib.hid (HB3.out.trans (hbw.out.mono HB3.out.size)); have HOT4 := Lib.hid (hrow.out.all (by rw [← hm.out]; omega))
      have hsame : ∀ left, solveT st x.p L left = solveT st x.p pool left := fun left => solve_pool (fun q hq => by have := hin.out q hq; rwa [List.drop_zero] at this)
      have HSAME := Lib.hid hsame
      clear hsame
      have hs := fun W (hW : Below w4.heap.size w4 W) => (TWO4.out.below hW).solve (HPO4.out.below hW) x.p lf (by omega)
      have hr := fun W (hW : Below w4.heap.size w4 W) => (TWO4.out.below hW).solve (HOT4.out.below hW) x.p lf (by omega)
      have hx := fun W (hW : Below w4.heap.size w4 W) => (TWO4.out.below hW).solve (HPO4.out.below hW) x.p (max lf 0 + mr) (by omega)
      rw [HT.out.1, ← HT.out.2.1, ← HT.out.2.2.1, ← HT.out.2.2.2] at hs hr hx
      simp only [HSAME.out] at hr
      have hlen := solveT_len (st := st) (p := x.p) (pool := pool) (show lf ≤ 2000 by omega)
      obtain ⟨res, hres⟩ : ∃ r, r = solveT st x.p pool lf := ⟨_, rfl⟩
      rw [← hres] at hs hr hlen
      obtain ⟨⟨t, c⟩, m, e0⟩ := res
      obtain ⟨t1, ht1⟩ : ∃ y, t.2.1 = y := ⟨_, rfl⟩
      obtain ⟨t2, ht2⟩ : ∃ y, t.2.2.1 = y := ⟨_, rfl⟩
      obtain ⟨t3, ht3⟩ : ∃ y, t.2.2.2 = y := ⟨_, rfl⟩
      have hmore := solve_more (more := mr) hres.symm (by omega)
      have Hsn : ∀ W, Below w4.heap.size w4 W → Calls _ _ _ W (fun e w' => ∃ (s : ByteArray) (a : Option Addr) (n k : Nat), n = c.length ∧ strV t.1 = .string s ∧ e = .returned (.tuple #[.agg #[.string s, .int .i64 t1, .int .i64 t2, .int .i64 t3, .slice a n k], .int .i64 m, .int .i64 e0]) ∧ ownsC w' W.heap.size 26 4 (.slice a n k) c.length (c.flatMap pkL) ∧ Below W.heap.size W w') := fun W hW => (hs W hW).mono (fun e w' h => by obtain ⟨s, a, n, k, h1, h2, h3, h4, h5⟩ := h.shape; rw [ht1, ht2, ht3] at h3; exact ⟨s, a, n, k, h1, h2, h3, h4, h5⟩)
      have Hrn : ∀ W, Below w4.heap.size w4 W → Calls _ _ _ W (fun e w' => ∃ (s : ByteArray) (a : Option Addr) (n k : Nat), n = c.length ∧ strV t.1 = .string s ∧ e = .returned (.tuple #[.agg #[.string s, .int .i64 t1, .int .i64 t2, .int .i64 t3, .slice a n k], .int .i64 m, .int .i64 e0]) ∧ ownsC w' W.heap.size 26 4 (.slice a n k) c.length (c.flatMap pkL) ∧ Below W.heap.size W w') := fun W hW => (hr W hW).mono (fun e w' h => by obtain ⟨s, a, n, k, h1, h2, h3, h4, h5⟩ := h.shape; rw [ht1, ht2, ht3] at h3; exact ⟨s, a, n, k, h1, h2, h3, h4, h5⟩)
      have HS := Lib.hid Hsn; have HR := Lib.hid Hrn; have HX := Lib.hid hx; have HMO := Lib.hid hmore; have HLEN := Lib.hid (show c.length ≤ 2000 from hlen); have HTN := Lib.hid (And.intro ht1 (And.intro ht2 ht3))
      clear hs hr hx Hsn Hrn hlen hres hmore ht1 ht2 ht3 hin hrow hbw
      have HC4 := Lib.hid (Below.refl w4.heap.size w4)
      have u0 := cell_of_heap G14.out 0
      have u1 := cell_of_heap G14.out 1
      have u2 := cell_of_heap G14.out 2
      have u3 := cell_of_heap G14.out 3
      have u4 := cell_of_heap G14.out 4
      have u5 := cell_of_heap G14.out 5
      have u6 := cell_of_heap G14.out 6
      have u7 := cell_of_heap G14.out 7
      have s0 := cell_of_heap G44.out 0
      have s1 := cell_of_heap G44.out 1
      go_wp2_with fail
      refine (HS.out _ HC4.out).mono ?_
      intro e v5 hsp
      obtain ⟨sA, aA, nA, kA, hnA, hsA, rfl, hoA, h4⟩ := hsp
      have hpA := (pkgs_ownsC hoA rfl (by have := HLEN.out; omega)).keep (Z' := zAll) ⟨fun _ _ _ => trivial, Nat.le_refl _, fun _ _ _ h => h⟩
      obtain ⟨w5, hw5, hbw, hx5, y1, y2⟩ := any_block v5 #[.string sA, .int .i64 t1, .int .i64 t2, .int .i64 t3, .slice aA nA kA] 39
      obtain ⟨b5, hb5⟩ : ∃ b, v5.heap.size = b := ⟨_, rfl⟩
      rw [hb5] at hx5
      have h45 := h4.trans (hbw.mono h4.size)
      have HW45 := Lib.hid (show w4.heap.size ≤ b5 by rw [← hb5]; exact h4.size)
      have HZ5 := Lib.hid (show w4.heap.size ≤ b5 by rw [← hb5]; exact Nat.le_trans HC4.out.size h4.size)
      clear u0 u1 u2 u3 u4 u5 u6 u7 s0 s1
      have G15 := Lib.hid ((h45.block _ (lt_of_heap G14.out)).trans G14.out); have G45 := Lib.hid ((h45.block _ (lt_of_heap G44.out)).trans G44.out); have HC5 := Lib.hid (HC4.out.trans (h45.mono HC4.out.size)); have HB5 := Lib.hid (HB4.out.trans (h45.mono HB4.out.size))
      have RA5 := Lib.hid hx5; have HPA5 := Lib.hid (hpA.below hbw); have HSA := Lib.hid hsA; have HOA5 := Lib.hid (ownsC_below hoA hbw); have HNA := Lib.hid hnA
      clear hpA hoA hsA hnA h4 hbw hx5 h45 y1 y2
      have u0 := cell_of_heap G15.out 0
      have u1 := cell_of_heap G15.out 1
      have u2 := cell_of_heap G15.out 2
      have u3 := cell_of_heap G15.out 3
      have u4 := cell_of_heap G15.out 4
      have u5 := cell_of_heap G15.out 5
      have u6 := cell_of_heap G15.out 6
      have u7 := cell_of_heap G15.out 7
      have s0 := cell_of_heap G45.out 0
      have s1 := cell_of_heap G45.out 1
      have ra0 := cell_of_heap RA5.out 0
      have ra1 := cell_of_heap RA5.out 1
      have ra2 := cell_of_heap RA5.out 2
      have ra3 := cell_of_heap RA5.out 3
      have ra4 := cell_of_heap RA5.out 4
      go_wp2_with fail
      refine (HR.out _ HC5.out).mono ?_
      intro e v7 hsp
      obtain ⟨sB, aB, nB, kB, hnB, hsB, rfl, hoB, h4⟩ := hsp
      have hpB := (pkgs_ownsC hoB rfl (by have := HLEN.out; omega)).keep (Z' := zAll) ⟨fun _ _ _ => trivial, Nat.le_refl _, fun _ _ _ h => h⟩
      obtain ⟨w7, hw7, hbw, hx5, y1, y2⟩ := any_block v7 #[.string sB, .int .i64 t1, .int .i64 t2, .int .i64 t3, .slice aB nB kB] 39
      obtain ⟨b7, hb7⟩ : ∃ b, v7.heap.size = b := ⟨_, rfl⟩
      rw [hb7] at hx5
      have h45 := h4.trans (hbw.mono h4.size)
      have HW57 := Lib.hid (show w5.heap.size ≤ b7 by rw [← hb7]; exact h4.size)
      have HZ7 := Lib.hid (show w4.heap.size ≤ b7 by rw [← hb7]; exact Nat.le_trans HC5.out.size h4.size)
      clear u0 u1 u2 u3 u4 u5 u6 u7 s0 s1 ra0 ra1 ra2 ra3 ra4
      have HPA7 := Lib.hid (HPA5.out.below h45)
      have HOA7 := Lib.hid (ownsC_below HOA5.out h45)
      have G17 := Lib.hid ((h45.block _ (lt_of_heap G15.out)).trans G15.out); have G47 := Lib.hid ((h45.block _ (lt_of_heap G45.out)).trans G45.out); have RA7 := Lib.hid ((h45.block _ (lt_of_heap RA5.out)).trans RA5.out); have HC7 := Lib.hid (HC5.out.trans (h45.mono HC5.out.size)); have HB7 := Lib.hid (HB5.out.trans (h45.mono HB5.out.size))
      have RB7 := Lib.hid hx5; have HPB7 := Lib.hid (hpB.below hbw); have HSB := Lib.hid hsB; have HOB7 := Lib.hid (ownsC_below hoB hbw); have HNB := Lib.hid hnB
      clear hpB hoB hsB hnB h4 hbw hx5 h45 y1 y2
      have u0 := cell_of_heap G17.out 0
      have u1 := cell_of_heap G17.out 1
      have u2 := cell_of_heap G17.out 2
      have u3 := cell_of_heap G17.out 3
      have u4 := cell_of_heap G17.out 4
      have u5 := cell_of_heap G17.out 5
      have u6 := cell_of_heap G17.out 6
      have u7 := cell_of_heap G17.out 7
      have s0 := cell_of_heap G47.out 0
      have s1 := cell_of_heap G47.out 1
      have ra0 := cell_of_heap RA7.out 0
      have ra1 := cell_of_heap RA7.out 1
      have ra2 := cell_of_heap RA7.out 2
      have ra3 := cell_of_heap RA7.out 3
      have ra4 := cell_of_heap RA7.out 4
      have rb0 := cell_of_heap RB7.out 0
      have rb1 := cell_of_heap RB7.out 1
      have rb2 := cell_of_heap RB7.out 2
      have rb3 := cell_of_heap RB7.out 3
      have rb4 := cell_of_heap RB7.out 4
      have HLT := Lib.hid (show b5 < b7 by have h1 := lt_of_heap RA5.out; have h2 := HW57.out; omega)
      obtain rfl : sB = sA := by
        have h1 := HSB.out
        rw [HSA.out] at h1
        injection h1 with h1
        exact h1.symm
      have hsm := rsameC_any w7 (t, c) (t, c) zAll (.slice aA nA kA) (HPA7.out) zAll (.slice aB nB kB) (HPB7.out)
      dsimp only at hsm
      rw [HSA.out, HTN.out.1, HTN.out.2.1, HTN.out.2.2, decide_eq_true rfl] at hsm
      have HSM := Lib.hid hsm
      clear hsm
      have hm : ((m : Int) == m) = true := by simp
      have he : ((e0 : Int) == e0) = true := by simp
      go_wp2_with fail
      refine HSM.out.mono ?_
      rintro e w8 ⟨rfl, h8⟩
      clear u0 u1 u2 u3 u4 u5 u6 u7 s0 s1 ra0 ra1 ra2 ra3 ra4 rb0 rb1 rb2 rb3 rb4
      have HPA8 := Lib.hid (HPA7.out.below h8)
      have HPB8 := Lib.hid (HPB7.out.below h8)
      have HOA8 := Lib.hid (ownsC_below HOA7.out h8)
      have HOB8 := Lib.hid (ownsC_below HOB7.out h8)
      have G18 := Lib.hid ((h8.block _ (lt_of_heap G17.out)).trans G17.out); have G48 := Lib.hid ((h8.block _ (lt_of_heap G47.out)).trans G47.out); have RA8 := Lib.hid ((h8.block _ (lt_of_heap RA7.out)).trans RA7.out); have RB8 := Lib.hid ((h8.block _ (lt_of_heap RB7.out)).trans RB7.out); have HC8 := Lib.hid (HC7.out.trans (h8.mono HC7.out.size)); have HB8 := Lib.hid (HB7.out.trans (h8.mono HB7.out.size))
      clear h8
      have u0 := cell_of_heap G18.out 0
      have u1 := cell_of_heap G18.out 1
      have u2 := cell_of_heap G18.out 2
      have u3 := cell_of_heap G18.out 3
      have u4 := cell_of_heap G18.out 4
      have u5 := cell_of_heap G18.out 5
      have u6 := cell_of_heap G18.out 6
      have u7 := cell_of_heap G18.out 7
      have s0 := cell_of_heap G48.out 0
      have s1 := cell_of_heap G48.out 1
      have ra0 := cell_of_heap RA8.out 0
      have ra1 := cell_of_heap RA8.out 1
      have ra2 := cell_of_heap RA8.out 2
      have ra3 := cell_of_heap RA8.out 3
      have ra4 := cell_of_heap RA8.out 4
      have rb0 := cell_of_heap RB8.out 0
      have rb1 := cell_of_heap RB8.out 1
      have rb2 := cell_of_heap RB8.out 2
      have rb3 := cell_of_heap RB8.out 3
      have rb4 := cell_of_heap RB8.out 4
      by_cases h60 : e0 = 60
      · have h6 : ((e0 : Int) == 60) = true := by simp; exact h60
        have hmx := HMO.out.1 h60
        go_wp2_with fail
        go_ret
        exact ⟨by simp, HB8.out⟩
      · have h6 : ((e0 : Int) == 60) = false := by simp; exact h60
        have hx2 := HMO.out.2 h60
        have hs := HX.out
        simp only [hx2] at hs
        obtain ⟨ht1, ht2, ht3⟩ := HTN.out
        have Hsn : ∀ W, Below w4.heap.size w4 W → Calls _ _ _ W (fun e w' => ∃ (s : ByteArray) (a : Option Addr) (n k : Nat), n = c.length ∧ strV t.1 = .string s ∧ e = .returned (.tuple #[.agg #[.string s, .int .i64 t1, .int .i64 t2, .int .i64 t3, .slice a n k], .int .i64 m, .int .i64 e0]) ∧ ownsC w' W.heap.size 26 4 (.slice a n k) c.length (c.flatMap pkL) ∧ Below W.heap.size W w') := fun W hW => (hs W hW).mono (fun e w' h => by obtain ⟨s, a, n, k, h1, h2, h3, h4, h5⟩ := h.shape; rw [ht1, ht2, ht3] at h3; exact ⟨s, a, n, k, h1, h2, h3, h4, h5⟩)
        have HS2 := Lib.hid Hsn
        clear hs Hsn hx2 ht1 ht2 ht3
        go_wp2_with fail
        refine (HS2.out _ HC8.out).mono ?_
        rintro e w9 ⟨sX, aX, nX, kX, hnX, hsX, rfl, hoX, h9⟩
        clear u0 u1 u2 u3 u4 u5 u6 u7 s0 s1 ra0 ra1 ra2 ra3 ra4 rb0 rb1 rb2 rb3 rb4
        have HPA9 := Lib.hid (HPA8.out.below h9)
        have HPB9 := Lib.hid (HPB8.out.below h9)
        have HOA9 := Lib.hid (ownsC_below HOA8.out h9)
        have HOB9 := Lib.hid (ownsC_below HOB8.out h9)
        have G19 := Lib.hid ((h9.block _ (lt_of_heap G18.out)).trans G18.out); have G49 := Lib.hid ((h9.block _ (lt_of_heap G48.out)).trans G48.out); have RA9 := Lib.hid ((h9.block _ (lt_of_heap RA8.out)).trans RA8.out); have RB9 := Lib.hid ((h9.block _ (lt_of_heap RB8.out)).trans RB8.out); have HC9 := Lib.hid (HC8.out.trans (h9.mono HC8.out.size)); have HB9 := Lib.hid (HB8.out.trans (h9.mono HB8.out.size))
        have HOX := Lib.hid hoX; have HSXX := Lib.hid hsX
        clear h9 hoX hsX hnX
        have u0 := cell_of_heap G19.out 0
        have u1 := cell_of_heap G19.out 1
        have u2 := cell_of_heap G19.out 2
        have u3 := cell_of_heap G19.out 3
        have u4 := cell_of_heap G19.out 4
        have u5 := cell_of_heap G19.out 5
        have u6 := cell_of_heap G19.out 6
        have u7 := cell_of_heap G19.out 7
        have s0 := cell_of_heap G49.out 0
        have s1 := cell_of_heap G49.out 1
        have ra0 := cell_of_heap RA9.out 0
        have ra1 := cell_of_heap RA9.out 1
        have ra2 := cell_of_heap RA9.out 2
        have ra3 := cell_of_heap RA9.out 3
        have ra4 := cell_of_heap RA9.out 4
        have rb0 := cell_of_heap RB9.out 0
        have rb1 := cell_of_heap RB9.out 1
        have rb2 := cell_of_heap RB9.out 2
        have rb3 := cell_of_heap RB9.out 3
        have rb4 := cell_of_heap RB9.out 4
        have rbf := frozen_of_heap RB9.out
        obtain ⟨V, hV, hVx, hVc⟩ := five_set RB9.out (.string sX) (.int .i64 t1) (.int .i64 t2) (.int .i64 t3) (.slice aX nX kX)
        go_upto_region 22 with fail
        try rw [hV]
        have hpa := (pkgs_ownsC (ownsC_keep (w' := V) HOA9.out (fun g hg => by
          obtain ⟨_, cur, hc⟩ := ownsC_kind HOA9.out hg
          exact hVc.block g (lt_of_heap hc) (fun hm => by rw [List.mem_singleton.1 hm] at hc; exact cells_ne hc RB9.out (by decide)))) rfl (by have := HLEN.out; omega)).keep (Z' := zAll) ⟨fun _ _ _ => trivial, Nat.le_refl _, fun _ _ _ h => h⟩
        have hpx := (pkgs_ownsC (ownsC_keep (w' := V) HOX.out (fun g hg => by
          obtain ⟨_, cur, hc⟩ := ownsC_kind HOX.out hg
          exact hVc.block g (lt_of_heap hc) (fun hm => by rw [List.mem_singleton.1 hm] at hc; exact cells_ne hc RB9.out (by decide)))) rfl (by have := HLEN.out; omega)).keep (Z' := zAll) ⟨fun _ _ _ => trivial, Nat.le_refl _, fun _ _ _ h => h⟩
        have hra := (hVc.block b5 (lt_of_heap RA9.out) (fun hm => by have h1 := lt_of_heap RA5.out; have h2 := List.mem_singleton.1 hm; have h3 := HLT.out; omega)).trans RA9.out
        have hsm := rsameC_any V (t, c) (t, c) zAll (.slice aA nA kA) hpa zAll (.slice aX nX kX) hpx
        have hsA := HSB.out
        dsimp only at hsm
        obtain rfl : sB = sX := by have h1 := HSXX.out; rw [hsA] at h1; injection h1
        rw [hsA, HTN.out.1, HTN.out.2.1, HTN.out.2.2, decide_eq_true rfl] at hsm
        have HSMX := Lib.hid hsm
        have HBV := Lib.hid (HB9.out.trans (below_of_ch hVc (fun k hk => by rw [List.mem_singleton.1 hk]; have h1 := HZ7.out; have h2 := HB4.out.size; omega) HB9.out.size))
        have HRX := Lib.hid hVx; have HRA := Lib.hid hra
        clear hV hVx hVc hpa hpx hra hsm hsA rbf u0 u1 u2 u3 u4 u5 u6 u7 s0 s1 ra0 ra1 ra2 ra3 ra4 rb0 rb1 rb2 rb3 rb4
        have x0 := cell_of_heap HRX.out 0
        have x1 := cell_of_heap HRX.out 1
        have x2 := cell_of_heap HRX.out 2
        have x3 := cell_of_heap HRX.out 3
        have x4 := cell_of_heap HRX.out 4
        have y0 := cell_of_heap HRA.out 0
        have y1 := cell_of_heap HRA.out 1
        have y2 := cell_of_heap HRA.out 2
        have y3 := cell_of_heap HRA.out 3
        have y4 := cell_of_heap HRA.out 4
        go_wp2_with fail
        refine HSMX.out.mono ?_
        rintro e wE ⟨rfl, hE⟩
        have HBE := Lib.hid (HBV.out.trans (hE.mono HBV.out.size))
        clear hE
        go_wp2_with fail
        go_ret
        exact ⟨by simp, HBE.out⟩
    · obtain ⟨q, hq⟩ : ∃ q, pool[jj]? = some q := ⟨_, List.getElem?_eq_getElem (by rw [← HNP.out]; omega)⟩
      have hdh := drop_here hq
      obtain ⟨bP, oP, S, rfl, hS, c0, c1, c2, c3⟩ := (HPOOL.out.below hbw.out).cells hq
      obtain ⟨q1, hq1⟩ : ∃ y, y = q.2.1 := ⟨_, rfl⟩
      obtain ⟨q2, hq2⟩ : ∃ y, y = q.2.2.1 := ⟨_, rfl⟩
      obtain ⟨q3, hq3⟩ : ∃ y, y = q.2.2.2 := ⟨_, rfl⟩
      rw [← hq1] at c1; rw [← hq2] at c2; rw [← hq3] at c3
      have hsl : (((jj + 1 : Nat) : Int) - 1) = (jj : Int) := by omega
      rw [hsl]
      have hjn : jj < np := by omega
      have HSQ := Lib.hid (And.intro hS (And.intro hq1 (And.intro hq2 hq3))); have HDH := Lib.hid hdh; have HQ := Lib.hid hq
      clear hq hdh hS hq1 hq2 hq3 hsl
      go_upto_region 10 with fail
      refine UpV.start [(9, fun W : World => W.cell? ⟨bP, oP + jj * 4, none⟩ = some (.string S) ∧ W.cell? ⟨bP, oP + jj * 4 + 1, none⟩ = some (.int .i64 q1) ∧ W.cell? ⟨bP, oP + jj * 4 + 2, none⟩ = some (.int .i64 q2) ∧ W.cell? ⟨bP, oP + jj * 4 + 3, none⟩ = some (.int .i64 q3))] (by kernel_rfl) ?_
      obtain ⟨Wd, hWd⟩ : ∃ W, W = wr.drew := ⟨_, rfl⟩
      rw [← hWd]
      have hbd : Below w3.heap.size w3 Wd := by rw [hWd]; exact hbw.out.drew
      have hrd : PkRow w3.heap.size Wd (.slice a m cc) L := by rw [hWd]; exact hrow.out
      have HBD := Lib.hid hbd; have HRD := Lib.hid hrd
      have hA0 : ∀ q ∈ ([(9, fun W : World => W.cell? ⟨bP, oP + jj * 4, none⟩ = some (.string S) ∧ W.cell? ⟨bP, oP + jj * 4 + 1, none⟩ = some (.int .i64 q1) ∧ W.cell? ⟨bP, oP + jj * 4 + 2, none⟩ = some (.int .i64 q2) ∧ W.cell? ⟨bP, oP + jj * 4 + 3, none⟩ = some (.int .i64 q3))] : List (Nat × (World → Prop))), q.2 Wd := by
        intro q hq
        obtain rfl := List.mem_singleton.1 hq
        rw [hWd]
        exact ⟨c0, c1, c2, c3⟩
      clear hbd hrd hWd c0 c1 c2 c3
      refine UpV.takeP 0 (v := .slice a m cc) rfl (by kernel_rfl) (by kernel_rfl) (by kernel_rfl) (by kernel_rfl) (fun _ _ _ h => h) (Or.inl ⟨by rfl, ?_⟩) (owe_all hA0) ?_
      · intro w hSw; first | rfl | (go_simp; done)
      try simp only [Act.put, List.setIfInBounds_toArray, List.set_cons_zero, List.set_cons_succ, List.getElem_toArray, List.getElem_cons_zero, List.getElem_cons_succ]
      refine UpV.takeP 1 (v := .slice (some ⟨bP, oP, none⟩) np cp) rfl (by kernel_rfl) (by kernel_rfl) (by kernel_rfl) (by kernel_rfl) (fun _ _ _ h => h) (Or.inl ⟨by rfl, ?_⟩) (owe_all hA0) ?_
      · intro w hSw; first | rfl | (go_simp; done)
      try simp only [Act.put, List.setIfInBounds_toArray, List.set_cons_zero, List.set_cons_succ, List.getElem_toArray, List.getElem_cons_zero, List.getElem_cons_succ]
      refine UpV.takeP 2 (v := .int .i64 (jj : Int)) rfl (by kernel_rfl) (by kernel_rfl) (by kernel_rfl) (by kernel_rfl) (fun _ _ _ h => h) (Or.inl ⟨by rfl, ?_⟩) (owe_all hA0) ?_
      · intro w hSw; first | rfl | (go_simp; done)
      try simp only [Act.put, List.setIfInBounds_toArray, List.set_cons_zero, List.set_cons_succ, List.getElem_toArray, List.getElem_cons_zero, List.getElem_cons_succ]
      refine UpV.takeP 3 (v := .pointer (some ⟨bP, oP + jj * 4, none⟩)) rfl (by kernel_rfl) (by kernel_rfl) (by kernel_rfl) (by kernel_rfl) (fun _ _ _ h => h) (Or.inl ⟨by rfl, ?_⟩) (owe_all hA0) ?_
      · intro w hSw; first | rfl | (go_simp; done)
      try simp only [Act.put, List.setIfInBounds_toArray, List.set_cons_zero, List.set_cons_succ, List.getElem_toArray, List.getElem_cons_zero, List.getElem_cons_succ]
      refine UpV.take 4 9 (v := .agg #[.string S, .int .i64 q1, .int .i64 q2, .int .i64 q3]) rfl (List.mem_cons_self ..) (by kernel_rfl) (by kernel_rfl) (by kernel_rfl) (by kernel_rfl) (by kernel_rfl) (fun _ _ _ h => h) (Or.inl ⟨by rfl, ?_⟩) (owe_all hA0) ?_
      · intro w hSw; obtain ⟨s0, s1, s2, s3⟩ := hSw; go_simp
      try simp only [Act.put, List.setIfInBounds_toArray, List.set_cons_zero, List.set_cons_succ, List.getElem_toArray, List.getElem_cons_zero, List.getElem_cons_succ]
      refine UpV.takeP 5 (v := .slice (some ⟨bP, oP, none⟩) np cp) rfl (by kernel_rfl) (by kernel_rfl) (by kernel_rfl) (by kernel_rfl) (fun _ _ _ h => h) (Or.inl ⟨by rfl, ?_⟩) (owe_all hA0) ?_
      · intro w hSw; first | rfl | (go_simp; done)
      try simp only [Act.put, List.setIfInBounds_toArray, List.set_cons_zero, List.set_cons_succ, List.getElem_toArray, List.getElem_cons_zero, List.getElem_cons_succ]
      refine UpV.takeP 6 (v := .int .i64 (jj : Int)) rfl (by kernel_rfl) (by kernel_rfl) (by kernel_rfl) (by kernel_rfl) (fun _ _ _ h => h) (Or.inl ⟨by rfl, ?_⟩) (owe_all hA0) ?_
      · intro w hSw; first | rfl | (go_simp; done)
      try simp only [Act.put, List.setIfInBounds_toArray, List.set_cons_zero, List.set_cons_succ, List.getElem_toArray, List.getElem_cons_zero, List.getElem_cons_succ]
      refine UpV.takeP 7 (v := .pointer (some ⟨bP, oP + jj * 4, none⟩)) rfl (by kernel_rfl) (by kernel_rfl) (by kernel_rfl) (by kernel_rfl) (fun _ _ _ h => h) (Or.inl ⟨by rfl, ?_⟩) (owe_all hA0) ?_
      · intro w hSw; first | rfl | (go_simp; done)
      try simp only [Act.put, List.setIfInBounds_toArray, List.set_cons_zero, List.set_cons_succ, List.getElem_toArray, List.getElem_cons_zero, List.getElem_cons_succ]
      refine UpV.take 8 9 (v := .agg #[.string S, .int .i64 q1, .int .i64 q2, .int .i64 q3]) rfl (List.mem_cons_self ..) (by kernel_rfl) (by kernel_rfl) (by kernel_rfl) (by kernel_rfl) (by kernel_rfl) (fun _ _ _ h => h) (Or.inl ⟨by rfl, ?_⟩) (owe_all hA0) ?_
      · intro w hSw; obtain ⟨s0, s1, s2, s3⟩ := hSw; go_simp
      try simp only [Act.put, List.setIfInBounds_toArray, List.set_cons_zero, List.set_cons_succ, List.getElem_toArray, List.getElem_cons_zero, List.getElem_cons_succ]
      refine UpV.one 9 (by kernel_rfl) rfl ?_
      intro K hK
      obtain ⟨w5, hw5, hb5, hx5, z1, z2⟩ := any_block Wd #[.string S, .int .i64 q1, .int .i64 q2, .int .i64 q3, .string S, .int .i64 q1, .int .i64 q2, .int .i64 q3] 26
      obtain ⟨b5, hb5e⟩ : ∃ b, Wd.heap.size = b := ⟨_, rfl⟩
      rw [hb5e] at hx5
      have hsrc5 := src_pk2 (q := q) HSQ.out.1 (by rw [← HSQ.out.2.1, ← HSQ.out.2.2.1, ← HSQ.out.2.2.2]; exact hx5)
      have hrm := HRD.out.below hb5
      have hrb := row_base hrm
      unfold PkRow at hrm
      rw [← hm.out] at hrm
      have hb35 := HBD.out.trans (hb5.mono HBD.out.size)
      have HSRC5 := Lib.hid hsrc5; have HRM := Lib.hid hrm; have HRB := Lib.hid hrb; have HB35 := Lib.hid hb35
      clear hsrc5 hrm hrb hb35 hb5 hx5 z1 z2
      try simp only [List.getElem_toArray, List.getElem_cons_zero, List.getElem_cons_succ]
      try go_simp
      try rw [hb5e]
      try rw [hw5]
      refine hK.out _ _ (owe1 (fun h => by cases h)) ?_
      clear hK K hA0
      try simp only [Act.put, List.setIfInBounds_toArray, List.set_cons_zero, List.set_cons_succ, List.getElem_toArray, List.getElem_cons_zero, List.getElem_cons_succ]
      refine UpV.one 10 (by kernel_rfl) rfl ?_
      intro K hK
      refine step_append_srcs rfl (.tmp 49) (.tmp 58) 28 28 rfl w3.heap.size 26 iP _ 4 40 Tryz.underlying28 HI.out.1 HI.out.2.1 HI.out.2.2.1 HI.out.2.2.2 rfl (by decide) (.slice a m cc) (by first | rfl | (simp [Act.eval]; done) | (simp [Act.eval, Act.put]; done)) m (L.flatMap pkL) HRM.out (.slice (some ⟨b5, 0, none⟩) 2 2) (by first | rfl | (simp [Act.eval]; done) | (simp [Act.eval, Act.put]; done)) 2 (pkL q ++ pkL q) HSRC5.out (by unfold maxLen; omega) (by omega) HB35.out.size ?_
      intro a6 c6' w6 hown hgrow _ _
      have hb36 := below_grownR HB35.out hgrow (fun g hg => (HRB.out g hg).1)
      have HR6 := Lib.hid (pkRow_two hm.out hown); have HB36 := Lib.hid hb36
      clear hown hgrow hb36
      refine hK.out _ _ (owe1 (fun h => by cases h)) ?_
      clear hK K
      try simp only [Act.put, List.setIfInBounds_toArray, List.set_cons_zero, List.set_cons_succ, List.getElem_toArray, List.getElem_cons_zero, List.getElem_cons_succ]
      refine UpV.takeP 11 (v := .slice a6 (m + 2) c6') rfl (by kernel_rfl) (by kernel_rfl) (by kernel_rfl) (by kernel_rfl) (fun _ _ _ h => h) (Or.inl ⟨by rfl, ?_⟩) (owe1 (fun h => by cases h)) ?_
      · intro w hSw; first | rfl | (go_simp; done)
      try simp only [Act.put, List.setIfInBounds_toArray, List.set_cons_zero, List.set_cons_succ, List.getElem_toArray, List.getElem_cons_zero, List.getElem_cons_succ]
      refine UpV.done (by kernel_rfl) ?_
      obtain ⟨bQ, oQ, S2, e5, hS2, c0, c1, c2, c3⟩ := (HPOOL.out.below HB36.out).cells (k := jj) (q := q) HQ.out
      obtain ⟨rfl, rfl⟩ : bP = bQ ∧ oP = oQ := by simpa using e5
      obtain rfl : S = S2 := by have h1 := HSQ.out.1; rw [h1] at hS2; injection hS2
      rw [← HSQ.out.2.1] at c1; rw [← HSQ.out.2.2.1] at c2; rw [← HSQ.out.2.2.2] at c3
      clear e5 hS2
      obtain ⟨w7, hw7, hb7, hx7, z1, z2⟩ := any_block w6 #[.string S, .int .i64 q1, .int .i64 q2, .int .i64 q3] 26
      obtain ⟨b7, hb7e⟩ : ∃ b, w6.heap.size = b := ⟨_, rfl⟩
      rw [hb7e] at hx7
      have k0 := cell_of_heap hx7 0
      have kf := frozen_of_heap hx7
      go_upto_region 13 with fail
      obtain ⟨V7, hV7⟩ : ∃ V, w7.setCell ⟨b7, 0, none⟩ (.string ⟨#[110, 111, 45, 115, 117, 99, 104, 45, 110, 97, 109, 101]⟩) = V := ⟨_, rfl⟩
      try rw [hV7]
      have hx8 : V7.heap[b7]? = some (.cells #[.string ⟨#[110, 111, 45, 115, 117, 99, 104, 45, 110, 97, 109, 101]⟩, .int .i64 q1, .int .i64 q2, .int .i64 q3] 26 (0, 0)) := by rw [← hV7]; exact set_at 0 _ hx7 (by simp)
      have hb67 : Below w6.heap.size w6 V7 := by rw [← hV7]; exact below_set hb7 (Nat.le_of_eq hb7e) 0 _
      have hb37 := HB36.out.trans (hb67.mono HB36.out.size)
      have hg4 := (hb37.block _ (lt_of_heap G43.out)).trans G43.out
      have hhas := rhas2_any V7 zAll _ st (TWO.out.below hb37).ref (nosuch, q.2)
      rw [show strV nosuch = .string ⟨#[110, 111, 45, 115, 117, 99, 104, 45, 110, 97, 109, 101]⟩ from rfl] at hhas
      dsimp only at hhas
      rw [← HSQ.out.2.1, ← HSQ.out.2.2.1, ← HSQ.out.2.2.2] at hhas
      clear k0 kf c0 c1 c2 c3 hx7 hb7 z1 z2 hV7
      have s0 := cell_of_heap hg4 0
      have s1 := cell_of_heap hg4 1
      have k0 := cell_of_heap hx8 0
      have k1 := cell_of_heap hx8 1
      have k2 := cell_of_heap hx8 2
      have k3 := cell_of_heap hx8 3
      obtain ⟨hb, hhb⟩ : ∃ b, b = st.has (nosuch, q.2) := ⟨_, rfl⟩
      rw [← hhb] at hhas
      have HHAS := Lib.hid hhas; have HHB := Lib.hid hhb; have HX8 := Lib.hid hx8; have HB37 := Lib.hid hb37; have HR7 := Lib.hid (HR6.out.below hb67); have HJ0 := Lib.hid hj; have HMJ := Lib.hid hmj
      clear hhas hhb hx8 hb37 hb67 hg4
      go_wp2_with fail
      refine HHAS.out.mono ?_
      rintro e w8 ⟨rfl, h8⟩
      have HR8 := Lib.hid (HR7.out.below h8); have HB38 := Lib.hid (HB37.out.trans (h8.mono HB37.out.size)); have hx9 := (h8.block _ (lt_of_heap HX8.out)).trans HX8.out
      clear h8 s0 s1 k0 k1 k2 k3
      have k0 := cell_of_heap hx9 0
      have k1 := cell_of_heap hx9 1
      have k2 := cell_of_heap hx9 2
      have k3 := cell_of_heap hx9 3
      cases hb
      · obtain ⟨wA, hwA, hbA, hxA, z1, z2⟩ := any_block w8 #[.string ⟨#[110, 111, 45, 115, 117, 99, 104, 45, 110, 97, 109, 101]⟩, .int .i64 q1, .int .i64 q2, .int .i64 q3] 26
        obtain ⟨bA, hbAe⟩ : ∃ b, w8.heap.size = b := ⟨_, rfl⟩
        rw [hbAe] at hxA
        have hsrcA := src_pk (q := (nosuch, q.2)) (S := ⟨#[110, 111, 45, 115, 117, 99, 104, 45, 110, 97, 109, 101]⟩) rfl (by dsimp only; rw [← HSQ.out.2.1, ← HSQ.out.2.2.1, ← HSQ.out.2.2.2]; exact hxA)
        have hrm := HR8.out.below hbA
        have hrb := row_base hrm
        unfold PkRow at hrm
        rw [List.length_append, ← hm.out, show ([q, q] : List Pk).length = 2 from rfl] at hrm
        have hb3A := HB38.out.trans (hbA.mono HB38.out.size)
        have HSRCA := Lib.hid hsrcA; have HRMA := Lib.hid hrm; have HRBA := Lib.hid hrb; have HB3A := Lib.hid hb3A
        clear hsrcA hrm hrb hb3A hbA hxA hx9 z1 z2
        go_wp2_with (first | (at_builtin; refine wpList_append_srcs rfl (.tmp 69) (.tmp 71) 28 28 rfl w3.heap.size 26 iP _ 4 40 Tryz.underlying28 HI.out.1 HI.out.2.1 HI.out.2.2.1 HI.out.2.2.2 rfl (by decide) (.slice a6 (m + 2) c6') rfl (m + 2) ((L ++ [q, q]).flatMap pkL) HRMA.out (.slice (some ⟨bA, 0, none⟩) 1 1) rfl 1 (pkL (nosuch, q.2)) HSRCA.out (by unfold maxLen; omega) (by omega) HB3A.out.size ?_; intro aB cB wB hown hgrow _ _; simp only [Nat.zero_add, List.nil_append] at hown ⊢; have HOWN := Lib.hid hown; have HGROW := Lib.hid hgrow; clear hown hgrow) | fail)
        have hrowB : PkRow w3.heap.size wB (.slice aB (m + 2 + 1) cB) ((L ++ [q, q]) ++ [(nosuch, q.2)]) := PkRow.push (by rw [List.length_append, ← hm.out]; rfl) HOWN.out
        have hbB := below_grownR HB3A.out HGROW.out (fun g hg => (HRBA.out g hg).1)
        have hinB : ∀ y ∈ st.pkgs, y ∈ (L ++ [q, q]) ++ [(nosuch, q.2)] ↔ y ∈ pool.drop jj := fun y hy => by
          rw [HDH.out]
          have hne : y ≠ (nosuch, q.2) := fun e => by have h1 := HHB.out; rw [← e, St.has_iff.2 hy] at h1; cases h1
          have h2 := hin.out y hy
          simp only [List.mem_append, List.mem_cons, List.not_mem_nil, or_false, h2, hne]
          constructor
          · rintro (h | h | h)
            · exact .inr h
            · exact .inl h
            · exact .inl h
          · rintro (h | h)
            · exact .inr (.inl h)
            · exact .inl h
        have HIN := Lib.hid hinB; have HRB2 := Lib.hid hrowB; have HBB := Lib.hid hbB
        clear hinB hrowB hbB
        go_roundw
        case rel => exact ⟨jj, m + 2 + 1, _, aB, cB, rfl, by go_num, by omega, by omega, Lib.hid (by rw [List.length_append, List.length_append, ← hm.out]; rfl), HIN, HRB2, HBB⟩
        case measure => first | (simp [intOf]; done) | (simp [intOf]; omega)
      · have hinB : ∀ y ∈ st.pkgs, y ∈ L ++ [q, q] ↔ y ∈ pool.drop jj := fun y hy => by
          rw [HDH.out]
          have h2 := hin.out y hy
          simp only [List.mem_append, List.mem_cons, List.not_mem_nil, or_false, h2]
          constructor
          · rintro (h | h | h)
            · exact .inr h
            · exact .inl h
            · exact .inl h
          · rintro (h | h)
            · exact .inr (.inl h)
            · exact .inl h
        have HIN := Lib.hid hinB
        clear hinB hx9
        go_wp2_with fail
        go_roundw
        case rel => exact ⟨jj, m + 2, _, a6, c6', rfl, by go_num, by omega, by omega, Lib.hid (by rw [List.length_append, ← hm.out]; rfl), HIN, HR8, HB38⟩
        case measure => first | (simp [intOf]; done) | (simp [intOf]; omega)
end Go.Proofs.YtnbeklmjinnbaaaGreat
