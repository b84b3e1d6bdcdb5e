/- DERIVED. Texts of this claim, put together: RChkB, RStkA, RStkB, RStkC. -/
import Derived.Test.YtaagkndhgicifaaGreatSv11
namespace Go.Proofs.YtaagkndhgicifaaGreat
set_option maxHeartbeats 32000000
open Go.RowKit
set_option linter.unusedVariables false
set_option linter.unusedSimpArgs false
set_option maxRecDepth 100000
theorem rname2_any (w : World) (l : List UInt8) {S : ByteArray} (hS : strV l = .string S) (hl : l.length ≤ 140737488351232) : Calls Tryz.prog 116 #[.string S] w (fun e w' => e = .returned (.bool (nameB l)) ∧ Below w.heap.size w w') := by
 obtain ⟨S', -, h1, h2, h3⟩ := strV_is l
 obtain rfl : S = S' := by rw [hS] at h1; injection h1
 refine (rname_any S w (by rw [h3]; exact hl)).mono ?_
 rintro e w' ⟨rfl, rfl⟩
 exact ⟨by rw [h2], Below.refl _ _⟩
theorem rdep_any (w : World) (Z : Zone) (v0 v1 : Value) (d : Dp) (h : DepAt Z w v0 v1 d) : Calls Tryz.prog 118 #[.agg #[v0, v1]] w (fun e w' => e = .returned (.bool (depB d)) ∧ Below w.heap.size w w') := by
 have h0 := h
 obtain ⟨rfl, hl, hg⟩ := h0
 have hg' := hg
 obtain ⟨a, c, rfl, -⟩ := hg'
 obtain ⟨S, -, hS, -, -⟩ := strV_is d.1
 rw [hS] at h ⊢
 obtain ⟨w1, hw1, hb1, hx1, y1, y2⟩ := aBk w #[.string S, .slice a d.2.length c] 59
 have hc0 := fun W (hW : Below w1.heap.size w1 W) => rname2_any W d.1 hS hl
 have hc1 := fun W (hW : Below w1.heap.size w1 W) => rrange_any W Z _ d.2 ((hg.below hb1).below hW)
 obtain ⟨R, hR⟩ : ∃ R, R = depB d := ⟨_, rfl⟩
 rw [← hR]
 unfold depB at hR
 obtain ⟨n, hn⟩ : ∃ n, n = d.2.length := ⟨_, rfl⟩
 rw [← hn] at hc1 hx1 hw1 ⊢
 obtain ⟨b0, hb0⟩ : ∃ b, b = nameB d.1 := ⟨_, rfl⟩
 obtain ⟨b1, hb1'⟩ : ∃ b, b = rangeB d.2 := ⟨_, rfl⟩
 rw [← hb0] at hR hc0; rw [← hb1'] at hR hc1
 obtain ⟨k0, k1⟩ := cells2 hx1
 have HC0 := hdL hc0; have HC1 := hdL hc1; have HR := hdL hR; have HB := hdL hb1; have H0 := hdL (Below.refl w1.heap.size w1)
 clear h hg hl hS hc0 hc1 hR hb1 hx1 hb0 hb1' hn y1 y2
 cases b0
 ·
  have HRR := hdL (show R = false by rw [HR.out]; rfl)
  go_enter Tryz.func118, Tryz.ntmps118
  go_wp2_with fail
  refine (HC0.out _ H0.out).mono ?_
  rintro e u1 ⟨rfl, h⟩
  have H1 := hdL (H0.out.trans (h.mono H0.out.size))
  have k0 := bkp h _ _ k0
  have k1 := bkp h _ _ k1
  clear h
  go_wp2_with fail
  go_ret
  exact ⟨by (rw [HRR.out]; rfl), HB.out.trans (H1.out.mono HB.out.size)⟩
 ·skip
  cases b1
  ·
   have HRR := hdL (show R = false by rw [HR.out]; rfl)
   go_enter Tryz.func118, Tryz.ntmps118
   go_wp2_with fail
   refine (HC0.out _ H0.out).mono ?_
   rintro e u1 ⟨rfl, h⟩
   have H1 := hdL (H0.out.trans (h.mono H0.out.size))
   have k0 := bkp h _ _ k0
   have k1 := bkp h _ _ k1
   clear h
   go_wp2_with fail
   refine (HC1.out _ H1.out).mono ?_
   rintro e u2 ⟨rfl, h⟩
   have H2 := hdL (H1.out.trans (h.mono H1.out.size))
   have k0 := bkp h _ _ k0
   have k1 := bkp h _ _ k1
   clear h
   go_wp2_with fail
   go_ret
   exact ⟨by (rw [HRR.out]; rfl), HB.out.trans (H2.out.mono HB.out.size)⟩
  ·
   have HRR := hdL (show R = true by rw [HR.out]; rfl)
   go_enter Tryz.func118, Tryz.ntmps118
   go_wp2_with fail
   refine (HC0.out _ H0.out).mono ?_
   rintro e u1 ⟨rfl, h⟩
   have H1 := hdL (H0.out.trans (h.mono H0.out.size))
   have k0 := bkp h _ _ k0
   have k1 := bkp h _ _ k1
   clear h
   go_wp2_with fail
   refine (HC1.out _ H1.out).mono ?_
   rintro e u2 ⟨rfl, h⟩
   have H2 := hdL (H1.out.trans (h.mono H1.out.size))
   have k0 := bkp h _ _ k0
   have k1 := bkp h _ _ k1
   clear h
   go_wp2_with fail
   go_ret
   exact ⟨by (rw [HRR.out]; rfl), HB.out.trans (H2.out.mono HB.out.size)⟩
theorem rpkgB_any (w : World) (p : Pk) (hl : p.1.length ≤ 140737488351232) : Calls Tryz.prog 76 #[.agg #[strV p.1, .int .i64 p.2.1, .int .i64 p.2.2.1, .int .i64 p.2.2.2]] w (fun e w' => e = .returned (.bool (pkgB p)) ∧ Below w.heap.size w w') := by
 obtain ⟨S, -, hS, -, -⟩ := strV_is p.1
 rw [hS]
 have hv := fun W => rvgood_any W p.2
 obtain ⟨R, hR⟩ : ∃ R, R = pkgB p := ⟨_, rfl⟩
 rw [← hR]
 unfold pkgB at hR
 obtain ⟨pn, a, b, c⟩ := p
 dsimp only at hv hR hS hl ⊢
 obtain ⟨w1, hw1, hb1, hx1, y1, y2⟩ := aBk w #[.string S, .int .i64 a, .int .i64 b, .int .i64 c] 41
 have hc0 := fun W (hW : Below w1.heap.size w1 W) => rname2_any W pn hS hl
 have hc1 := fun W (hW : Below w1.heap.size w1 W) => hv W
 obtain ⟨b0, hb0⟩ : ∃ b, b = nameB pn := ⟨_, rfl⟩
 obtain ⟨b1, hb1'⟩ : ∃ b', b' = verGood (a, b, c) := ⟨_, rfl⟩
 rw [← hb0] at hR hc0; rw [← hb1'] at hR hc1
 obtain ⟨k0, k1, k2, k3⟩ := cells4 hx1
 have HC0 := hdL hc0; have HC1 := hdL hc1; have HR := hdL hR; have HB := hdL hb1; have H0 := hdL (Below.refl w1.heap.size w1)
 clear hl hS hc0 hc1 hR hb1 hx1 hb0 hb1' hv y1 y2
 cases b0
 ·
  have HRR := hdL (show R = false by rw [HR.out]; rfl)
  go_enter Tryz.func76, Tryz.ntmps76
  go_wp2_with fail
  refine (HC0.out _ H0.out).mono ?_
  rintro e u1 ⟨rfl, h⟩
  have H1 := hdL (H0.out.trans (h.mono H0.out.size))
  have k0 := bkp h _ _ k0
  have k1 := bkp h _ _ k1
  have k2 := bkp h _ _ k2
  have k3 := bkp h _ _ k3
  clear h
  go_wp2_with fail
  go_ret
  exact ⟨by (rw [HRR.out]; rfl), HB.out.trans (H1.out.mono HB.out.size)⟩
 ·skip
  cases b1
  ·
   have HRR := hdL (show R = false by rw [HR.out]; rfl)
   go_enter Tryz.func76, Tryz.ntmps76
   go_wp2_with fail
   refine (HC0.out _ H0.out).mono ?_
   rintro e u1 ⟨rfl, h⟩
   have H1 := hdL (H0.out.trans (h.mono H0.out.size))
   have k0 := bkp h _ _ k0
   have k1 := bkp h _ _ k1
   have k2 := bkp h _ _ k2
   have k3 := bkp h _ _ k3
   clear h
   go_wp2_with fail
   refine (HC1.out _ H1.out).mono ?_
   rintro e u2 ⟨rfl, h⟩
   have H2 := hdL (H1.out.trans (h.mono H1.out.size))
   have k0 := bkp h _ _ k0
   have k1 := bkp h _ _ k1
   have k2 := bkp h _ _ k2
   have k3 := bkp h _ _ k3
   clear h
   go_wp2_with fail
   go_ret
   exact ⟨by (rw [HRR.out]; rfl), HB.out.trans (H2.out.mono HB.out.size)⟩
  ·
   have HRR := hdL (show R = true by rw [HR.out]; rfl)
   go_enter Tryz.func76, Tryz.ntmps76
   go_wp2_with fail
   refine (HC0.out _ H0.out).mono ?_
   rintro e u1 ⟨rfl, h⟩
   have H1 := hdL (H0.out.trans (h.mono H0.out.size))
   have k0 := bkp h _ _ k0
   have k1 := bkp h _ _ k1
   have k2 := bkp h _ _ k2
   have k3 := bkp h _ _ k3
   clear h
   go_wp2_with fail
   refine (HC1.out _ H1.out).mono ?_
   rintro e u2 ⟨rfl, h⟩
   have H2 := hdL (H1.out.trans (h.mono H1.out.size))
   have k0 := bkp h _ _ k0
   have k1 := bkp h _ _ k1
   have k2 := bkp h _ _ k2
   have k3 := bkp h _ _ k3
   clear h
   go_wp2_with fail
   go_ret
   exact ⟨by (rw [HRR.out]; rfl), HB.out.trans (H2.out.mono HB.out.size)⟩
theorem rdeps_any (w : World) (Z : Zone) (v : Value) (ds : List Dp) (h : DepsAt Z w v ds) : Calls Tryz.prog 119 #[v] w (fun e w' => e = .returned (.bool (depsB ds)) ∧ Below w.heap.size w w') := by
 have h0 := h
 obtain ⟨a, c, rfl, hb, hc⟩ := h0
 obtain ⟨n, hnn⟩ : ∃ n, n = ds.length := ⟨_, rfl⟩
 obtain ⟨R, hR⟩ : ∃ R, R = depsB ds := ⟨_, rfl⟩
 rw [← hR]
 rw [← hnn] at hb h ⊢
 have hnl : n ≤ 8796093022208 := hb.max
 have HN := hdL hnn; have HR := hdL hR; have HC := hdL hc
 clear hnn hR hc hb h
 go_enter Tryz.func119, Tryz.ntmps119
 by_cases h8 : n ≤ 8
 ·have h8' : ¬ 8 < (n : Int) := by omega
  go_wp2_with fail
  go_loopw [10] (fun x wr => ∃ k : Nat, x = .int .i64 k ∧ k ≤ n ∧ Hid ((ds.take k).all depB = true) ∧ Hid (((ds.take k).map Prod.fst).Nodup) ∧ Hid (Below w.heap.size w wr)) (fun x _ => n - (intOf x).toNat)
  case atStart => exact ⟨0, rfl, Nat.zero_le _, rfl, List.nodup_nil, Below.refl _ _⟩
  case round =>
   obtain ⟨k, rfl, hkn, hall, hnd, hbw⟩ := hrel
   by_cases hlt : k < n
   ·obtain ⟨d, hd⟩ : ∃ d, ds[k]? = some d := ⟨_, gEg (by rw [← HN.out]; exact hlt)⟩
    obtain ⟨b, o, rfl, -, -, hcs⟩ := HC.out (fun e => by rw [e] at hd; cases hd)
    have HCS := hdL hcs; have HD := hdL hd
    clear hcs hd
    go_wp2_with fail
    go_loopw [4] (fun x wx => ∃ i : Nat, x = .int .i64 i ∧ i ≤ k ∧ Hid ((ds.take i).any (sameB d.1) = false) ∧ Hid (Below w.heap.size w wx)) (fun x _ => k - (intOf x).toNat)
    case atStart => exact ⟨0, rfl, Nat.zero_le _, rfl, hbw⟩
    case round =>
     obtain ⟨i, rfl, hik, hany, hbx⟩ := hrel
     by_cases hlt2 : i < k
     ·obtain ⟨d2, hd2⟩ : ∃ d, ds[i]? = some d := ⟨_, gEg (by rw [← HN.out]; omega)⟩
      obtain ⟨v0, v1, c0, c1, rfl, -, -⟩ := HCS.out k d HD.out
      obtain ⟨u0, u1, e0, e1, rfl, -, -⟩ := HCS.out i d2 hd2
      obtain ⟨S, -, hS, hS2, -⟩ := strV_is d.1
      obtain ⟨T, -, hT, hT2, -⟩ := strV_is d2.1
      rw [hS] at c0; rw [hT] at e0
      have c0 := bkp hbx.out _ _ c0
      have e0 := bkp hbx.out _ _ e0
      have he := str_eqb T S d2.1 d.1 hT2 hS2
      have hsb : sameB d.1 d2 = decide (d2.1 = d.1) := rfl
      rw [← hsb] at he
      have HD2 := hdL hd2
      have hin : i < n := by omega
      clear c1 e1 hS hT hS2 hT2 hsb hd2
      cases hp : sameB d.1 d2
      ·rw [hp] at he
       have HNX := hdL (any_takes hany.out HD2.out hp)
       clear hp
       go_wp2_with fail
       go_quiet (fail)
       go_wp2_with fail
       go_roundw
       case rel => exact ⟨i + 1, by go_num, hlt2, HNX, Below.drewN hbx.out _⟩
       case measure => simp [intOf]; omega
      ·rw [hp] at he
       have HF := hdL (show R = false by rw [HR.out]; exact deps_twice HD.out (List.any_eq_true.2 ⟨d2, List.mem_of_getElem? (by rw [List.getElem?_take, if_pos hlt2]; exact HD2.out), hp⟩))
       clear hp
       go_wp2_with fail
       go_quiet (fail)
       go_wp2_with fail
       go_ret
       exact ⟨by (rw [HF.out]; rfl), Below.drewN hbx.out _⟩
     ·obtain rfl : i = k := by omega
      obtain ⟨v0, v1, c0, c1, hda⟩ := HCS.out i d HD.out
      have c0 := bkp hbx.out _ _ c0
      have c1 := bkp hbx.out _ _ c1
      have hda := hda.below hbx.out
      have hda2 := hda
      obtain ⟨rfl, -, ag, cg, rfl, -⟩ := hda2
      obtain ⟨S, -, h2, -, -⟩ := strV_is d.1
      obtain ⟨m, hm⟩ : ∃ m, m = d.2.length := ⟨_, rfl⟩
      rw [h2, ← hm] at hda
      rw [h2] at c0
      rw [← hm] at c1
      have hg := rdep_any _ Z _ _ d hda
      cases hdb : depB d
      ·rw [hdb] at hg
       have HG := hdL hg; have HF := hdL (show R = false by rw [HR.out]; exact deps_bad HD.out hdb)
       clear hg hdb hda h2 hm
       go_wp2_with fail
       refine HG.out.mono ?_
       rintro e w4 ⟨rfl, h4⟩
       have H4 := hdL (hbx.out.trans (h4.mono hbx.out.size))
       clear h4
       go_wp2_with fail
       go_ret
       exact ⟨by (rw [HF.out]; rfl), H4.out⟩
      ·rw [hdb] at hg
       have HG := hdL hg; have HND := hdL (nodup_next HD.out hnd.out hany.out); have HAL := hdL (all_next2 HD.out hall.out hdb)
       clear hg hdb hda h2 hm
       go_wp2_with fail
       refine HG.out.mono ?_
       rintro e w4 ⟨rfl, h4⟩
       have H4 := hdL (hbx.out.trans (h4.mono hbx.out.size))
       clear h4
       go_wp2_with fail
       go_roundw
       case rel => exact ⟨i + 1, by go_num, hlt, HAL, HND, H4⟩
       case measure => simp [intOf]; omega
   ·obtain rfl : k = n := by omega
    have h1 := hall.out; have h2 := hnd.out
    rw [tLe (by rw [← HN.out]; exact Nat.le_refl _)] at h1 h2
    have HF := hdL (show R = true by rw [HR.out]; unfold depsB; rw [h1, decide_eq_true h2, ← HN.out]; simp [h8])
    clear h1 h2
    go_wp2_with fail
    go_ret
    exact ⟨by (rw [HF.out]; rfl), hbw.out⟩
 ·have h8' : 8 < (n : Int) := by omega
  have HF := hdL (show R = false by rw [HR.out]; unfold depsB; rw [← HN.out, decide_eq_false h8]; rfl)
  go_wp2_with fail
  go_ret
  exact ⟨by (rw [HF.out]; rfl), Below.refl _ _⟩
theorem rgoodR_any (w : World) (Z : Zone) (vs : List Value) (r : Rc) (h : RecAt Z w vs r) : Calls Tryz.prog 77 #[.agg vs.toArray] w (fun e w' => e = .returned (.bool (goodRc r)) ∧ Below w.heap.size w w') := by
 obtain ⟨s, t, a1, n1, c1, a2, n2, c2, a3, n3, c3, rfl, hs, hl, h1, h2, h3⟩ := h.shape
 obtain ⟨R, hR⟩ : ∃ R, R = goodRc r := ⟨_, rfl⟩
 rw [← hR]
 unfold goodRc at hR
 have hp := fun W => rpkgB_any W r.pkg hl
 rw [hs] at hp
 obtain ⟨x, hx⟩ : ∃ x, x = r.pkg.2.1 := ⟨_, rfl⟩
 obtain ⟨y, hy⟩ : ∃ x, x = r.pkg.2.2.1 := ⟨_, rfl⟩
 obtain ⟨z, hz⟩ : ∃ x, x = r.pkg.2.2.2 := ⟨_, rfl⟩
 rw [← hx, ← hy, ← hz] at hp ⊢
 obtain ⟨w1, hw1, hb1, hx1, y1, y2⟩ := aBk w #[.string s, .int .i64 x, .int .i64 y, .int .i64 z, .string t, .slice a1 n1 c1, .slice a2 n2 c2, .slice a3 n3 c3] 62
 have hc0 := fun W (hW : Below w1.heap.size w1 W) => hp W
 have hc1 := fun W (hW : Below w1.heap.size w1 W) => rdep_any W Z _ _ r.tool ((h1.below hb1).below hW)
 have hc2 := fun W (hW : Below w1.heap.size w1 W) => rdeps_any W Z _ r.build ((h2.below hb1).below hW)
 have hc3 := fun W (hW : Below w1.heap.size w1 W) => rdeps_any W Z _ r.run ((h3.below hb1).below hW)
 obtain ⟨b0, hb0⟩ : ∃ b, b = pkgB r.pkg := ⟨_, rfl⟩
 obtain ⟨b1, hb1'⟩ : ∃ b, b = depB r.tool := ⟨_, rfl⟩
 obtain ⟨b2, hb2'⟩ : ∃ b, b = depsB r.build := ⟨_, rfl⟩
 obtain ⟨b3, hb3'⟩ : ∃ b, b = depsB r.run := ⟨_, rfl⟩
 rw [← hb0] at hR hc0; rw [← hb1'] at hR hc1; rw [← hb2'] at hR hc2; rw [← hb3'] at hR hc3
 obtain ⟨k0, k1, k2, k3, k4, k5, k6, k7⟩ := cells8 hx1
 have HC0 := hdL hc0; have HC1 := hdL hc1; have HC2 := hdL hc2; have HC3 := hdL hc3; have HR := hdL hR; have HB := hdL hb1; have H0 := hdL (Below.refl w1.heap.size w1)
 clear h h1 h2 h3 hs hl hp hc0 hc1 hc2 hc3 hR hb1 hx1 hb0 hb1' hb2' hb3' hx hy hz y1 y2
 cases b0
 ·
  have HRR := hdL (show R = false by rw [HR.out]; rfl)
  go_enter Tryz.func77, Tryz.ntmps77
  go_wp2_with fail
  refine (HC0.out _ H0.out).mono ?_
  rintro e u1 ⟨rfl, h⟩
  have H1 := hdL (H0.out.trans (h.mono H0.out.size))
  have k0 := bkp h _ _ k0
  have k1 := bkp h _ _ k1
  have k2 := bkp h _ _ k2
  have k3 := bkp h _ _ k3
  have k4 := bkp h _ _ k4
  have k5 := bkp h _ _ k5
  have k6 := bkp h _ _ k6
  have k7 := bkp h _ _ k7
  clear h
  go_wp2_with fail
  go_ret
  exact ⟨by (rw [HRR.out]; rfl), HB.out.trans (H1.out.mono HB.out.size)⟩
 ·skip
  cases b1
  ·
   have HRR := hdL (show R = false by rw [HR.out]; rfl)
   go_enter Tryz.func77, Tryz.ntmps77
   go_wp2_with fail
   refine (HC0.out _ H0.out).mono ?_
   rintro e u1 ⟨rfl, h⟩
   have H1 := hdL (H0.out.trans (h.mono H0.out.size))
   have k0 := bkp h _ _ k0
   have k1 := bkp h _ _ k1
   have k2 := bkp h _ _ k2
   have k3 := bkp h _ _ k3
   have k4 := bkp h _ _ k4
   have k5 := bkp h _ _ k5
   have k6 := bkp h _ _ k6
   have k7 := bkp h _ _ k7
   clear h
   go_wp2_with fail
   refine (HC1.out _ H1.out).mono ?_
   rintro e u2 ⟨rfl, h⟩
   have H2 := hdL (H1.out.trans (h.mono H1.out.size))
   have k0 := bkp h _ _ k0
   have k1 := bkp h _ _ k1
   have k2 := bkp h _ _ k2
   have k3 := bkp h _ _ k3
   have k4 := bkp h _ _ k4
   have k5 := bkp h _ _ k5
   have k6 := bkp h _ _ k6
   have k7 := bkp h _ _ k7
   clear h
   go_wp2_with fail
   go_ret
   exact ⟨by (rw [HRR.out]; rfl), HB.out.trans (H2.out.mono HB.out.size)⟩
  ·skip
   cases b2
   ·
    have HRR := hdL (show R = false by rw [HR.out]; rfl)
    go_enter Tryz.func77, Tryz.ntmps77
    go_wp2_with fail
    refine (HC0.out _ H0.out).mono ?_
    rintro e u1 ⟨rfl, h⟩
    have H1 := hdL (H0.out.trans (h.mono H0.out.size))
    have k0 := bkp h _ _ k0
    have k1 := bkp h _ _ k1
    have k2 := bkp h _ _ k2
    have k3 := bkp h _ _ k3
    have k4 := bkp h _ _ k4
    have k5 := bkp h _ _ k5
    have k6 := bkp h _ _ k6
    have k7 := bkp h _ _ k7
    clear h
    go_wp2_with fail
    refine (HC1.out _ H1.out).mono ?_
    rintro e u2 ⟨rfl, h⟩
    have H2 := hdL (H1.out.trans (h.mono H1.out.size))
    have k0 := bkp h _ _ k0
    have k1 := bkp h _ _ k1
    have k2 := bkp h _ _ k2
    have k3 := bkp h _ _ k3
    have k4 := bkp h _ _ k4
    have k5 := bkp h _ _ k5
    have k6 := bkp h _ _ k6
    have k7 := bkp h _ _ k7
    clear h
    go_wp2_with fail
    refine (HC2.out _ H2.out).mono ?_
    rintro e u3 ⟨rfl, h⟩
    have H3 := hdL (H2.out.trans (h.mono H2.out.size))
    have k0 := bkp h _ _ k0
    have k1 := bkp h _ _ k1
    have k2 := bkp h _ _ k2
    have k3 := bkp h _ _ k3
    have k4 := bkp h _ _ k4
    have k5 := bkp h _ _ k5
    have k6 := bkp h _ _ k6
    have k7 := bkp h _ _ k7
    clear h
    go_wp2_with fail
    go_ret
    exact ⟨by (rw [HRR.out]; rfl), HB.out.trans (H3.out.mono HB.out.size)⟩
   ·skip
    cases b3
    ·
     have HRR := hdL (show R = false by rw [HR.out]; rfl)
     go_enter Tryz.func77, Tryz.ntmps77
     go_wp2_with fail
     refine (HC0.out _ H0.out).mono ?_
     rintro e u1 ⟨rfl, h⟩
     have H1 := hdL (H0.out.trans (h.mono H0.out.size))
     have k0 := bkp h _ _ k0
     have k1 := bkp h _ _ k1
     have k2 := bkp h _ _ k2
     have k3 := bkp h _ _ k3
     have k4 := bkp h _ _ k4
     have k5 := bkp h _ _ k5
     have k6 := bkp h _ _ k6
     have k7 := bkp h _ _ k7
     clear h
     go_wp2_with fail
     refine (HC1.out _ H1.out).mono ?_
     rintro e u2 ⟨rfl, h⟩
     have H2 := hdL (H1.out.trans (h.mono H1.out.size))
     have k0 := bkp h _ _ k0
     have k1 := bkp h _ _ k1
     have k2 := bkp h _ _ k2
     have k3 := bkp h _ _ k3
     have k4 := bkp h _ _ k4
     have k5 := bkp h _ _ k5
     have k6 := bkp h _ _ k6
     have k7 := bkp h _ _ k7
     clear h
     go_wp2_with fail
     refine (HC2.out _ H2.out).mono ?_
     rintro e u3 ⟨rfl, h⟩
     have H3 := hdL (H2.out.trans (h.mono H2.out.size))
     have k0 := bkp h _ _ k0
     have k1 := bkp h _ _ k1
     have k2 := bkp h _ _ k2
     have k3 := bkp h _ _ k3
     have k4 := bkp h _ _ k4
     have k5 := bkp h _ _ k5
     have k6 := bkp h _ _ k6
     have k7 := bkp h _ _ k7
     clear h
     go_wp2_with fail
     refine (HC3.out _ H3.out).mono ?_
     rintro e u4 ⟨rfl, h⟩
     have H4 := hdL (H3.out.trans (h.mono H3.out.size))
     have k0 := bkp h _ _ k0
     have k1 := bkp h _ _ k1
     have k2 := bkp h _ _ k2
     have k3 := bkp h _ _ k3
     have k4 := bkp h _ _ k4
     have k5 := bkp h _ _ k5
     have k6 := bkp h _ _ k6
     have k7 := bkp h _ _ k7
     clear h
     go_wp2_with fail
     go_ret
     exact ⟨by (rw [HRR.out]; rfl), HB.out.trans (H4.out.mono HB.out.size)⟩
    ·
     have HRR := hdL (show R = true by rw [HR.out]; rfl)
     go_enter Tryz.func77, Tryz.ntmps77
     go_wp2_with fail
     refine (HC0.out _ H0.out).mono ?_
     rintro e u1 ⟨rfl, h⟩
     have H1 := hdL (H0.out.trans (h.mono H0.out.size))
     have k0 := bkp h _ _ k0
     have k1 := bkp h _ _ k1
     have k2 := bkp h _ _ k2
     have k3 := bkp h _ _ k3
     have k4 := bkp h _ _ k4
     have k5 := bkp h _ _ k5
     have k6 := bkp h _ _ k6
     have k7 := bkp h _ _ k7
     clear h
     go_wp2_with fail
     refine (HC1.out _ H1.out).mono ?_
     rintro e u2 ⟨rfl, h⟩
     have H2 := hdL (H1.out.trans (h.mono H1.out.size))
     have k0 := bkp h _ _ k0
     have k1 := bkp h _ _ k1
     have k2 := bkp h _ _ k2
     have k3 := bkp h _ _ k3
     have k4 := bkp h _ _ k4
     have k5 := bkp h _ _ k5
     have k6 := bkp h _ _ k6
     have k7 := bkp h _ _ k7
     clear h
     go_wp2_with fail
     refine (HC2.out _ H2.out).mono ?_
     rintro e u3 ⟨rfl, h⟩
     have H3 := hdL (H2.out.trans (h.mono H2.out.size))
     have k0 := bkp h _ _ k0
     have k1 := bkp h _ _ k1
     have k2 := bkp h _ _ k2
     have k3 := bkp h _ _ k3
     have k4 := bkp h _ _ k4
     have k5 := bkp h _ _ k5
     have k6 := bkp h _ _ k6
     have k7 := bkp h _ _ k7
     clear h
     go_wp2_with fail
     refine (HC3.out _ H3.out).mono ?_
     rintro e u4 ⟨rfl, h⟩
     have H4 := hdL (H3.out.trans (h.mono H3.out.size))
     have k0 := bkp h _ _ k0
     have k1 := bkp h _ _ k1
     have k2 := bkp h _ _ k2
     have k3 := bkp h _ _ k3
     have k4 := bkp h _ _ k4
     have k5 := bkp h _ _ k5
     have k6 := bkp h _ _ k6
     have k7 := bkp h _ _ k7
     clear h
     go_wp2_with fail
     go_ret
     exact ⟨by (rw [HRR.out]; rfl), HB.out.trans (H4.out.mono HB.out.size)⟩
theorem PkgsAt.cells {Z : Zone} {w : World} {a : Option Addr} {n c k : Nat} {ps : List Pk} {q : Pk} (h : PkgsAt Z w (.slice a n c) ps) (hk : ps[k]? = some q) :
  ∃ (b o : Nat) (S : ByteArray), a = some ⟨b, o, none⟩ ∧ strV q.1 = .string S ∧ w.cell? ⟨b, o + k * 4, none⟩ = some (.string S) ∧ w.cell? ⟨b, o + k * 4 + 1, none⟩ = some (.int .i64 q.2.1) ∧ w.cell? ⟨b, o + k * 4 + 2, none⟩ = some (.int .i64 q.2.2.1) ∧ w.cell? ⟨b, o + k * 4 + 3, none⟩ = some (.int .i64 q.2.2.2) := by
 obtain ⟨a', c', e, hb, hc⟩ := h
 obtain ⟨rfl, rfl, rfl⟩ := Value.slice.inj e
 obtain ⟨b, o, rfl, -, -, hcs⟩ := hc (fun e => by rw [e] at hk; cases hk)
 obtain ⟨S, -, hS, -, -⟩ := strV_is q.1
 exact ⟨b, o, S, rfl, hS, by have := hcs k q hk 0 _ rfl; rw [hS] at this; exact this, hcs k q hk 1 _ rfl, hcs k q hk 2 _ rfl, hcs k q hk 3 _ rfl⟩
theorem eqPk2 (p q : Pk) {S T : ByteArray} (hS : strV p.1 = .string S) (hT : strV q.1 = .string T) (W : World) : (binOp .eql 41 (.agg #[.string S, .int .i64 p.2.1, .int .i64 p.2.2.1, .int .i64 p.2.2.2]) (.agg #[.string T, .int .i64 q.2.1, .int .i64 q.2.2.1, .int .i64 q.2.2.2])).run Tryz.prog W = .ok (.bool (decide (p = q))) W := by
 have := eqPk.1 p q W
 unfold pkL at this
 dsimp only at this
 rw [hS, hT] at this
 exact this
theorem row_below {w w' : World} {base : Nat} {e : TypeId} {size : Nat} {v : Value} {n : Nat} {xs : List Value} (h : w.ownsRow base e size v n xs) (hb : Below w.heap.size w w') : w'.ownsRow base e size v n xs :=
 ownsRow_keep h (fun g hg => by
  rcases h.2 with ⟨rfl, _⟩ | ⟨g', cap, cur, rfl, _, hgb, _⟩
  ·cases hg
  ·obtain rfl : g' = g := by simpa [Value.ownBlock] using hg
   exact hb.block g' (loh hgb))
theorem row_base {w : World} {base : Nat} {e : TypeId} {size : Nat} {v : Value} {n : Nat} {xs : List Value} (h : w.ownsRow base e size v n xs) : ∀ g, v.ownBlock = some g → base ≤ g ∧ g < w.heap.size := fun g hg => by
 rcases h.2 with ⟨rfl, _⟩ | ⟨g', cap, cur, rfl, hbg, hgb, _⟩
 ·cases hg
 ·obtain rfl : g' = g := by simpa [Value.ownBlock] using hg
  exact ⟨hbg, loh hgb⟩
theorem below_grownR {w w' w'' : World} {v : Value} (h : Below w.heap.size w w') (hg : w'.grownBy w'' v.ownBlock) (hv : ∀ g, v.ownBlock = some g → w.heap.size ≤ g) : Below w.heap.size w w'' :=
 ⟨hg.os.trans h.os, hg.tape.trans h.tape, hg.output.trans h.output, Nat.le_trans h.size hg.size, fun k hk => (hg.block k (Nat.lt_of_lt_of_le hk h.size) (fun e => by have := hv k e.symm; omega)).trans (h.block k hk)⟩
theorem src_pk {w : World} {b : Nat} {q : Pk} {S : ByteArray} {t : TypeId} (hS : strV q.1 = .string S) (h : w.heap[b]? = some (.cells #[.string S, .int .i64 q.2.1, .int .i64 q.2.2.1, .int .i64 q.2.2.2] t (0, 0))) : Src Tryz.prog 4 22 (.slice (some ⟨b, 0, none⟩) 1 1) 1 (pkL q) w :=
 Src.ofSlice _ Tryz.underlying22 ⟨b, 0, none⟩ 1 1 (pkL q) rfl (fun j u hj => by
  unfold pkL at hj
  rw [hS] at hj
  rw [Addr.add_lit, Nat.zero_add, cOh h]
  simpa using hj) (pkL_one _)
theorem filt_yes {ps : List Pk} {f : Pk → Bool} {k : Nat} {q : Pk} (h : ps[k]? = some q) (hf : f q = true) : (ps.take (k + 1)).filter f = (ps.take k).filter f ++ [q] := by
 rw [List.take_add_one, h, List.filter_append]
 simp [hf]
theorem filt_no {ps : List Pk} {f : Pk → Bool} {k : Nat} {q : Pk} (h : ps[k]? = some q) (hf : f q = false) : (ps.take (k + 1)).filter f = (ps.take k).filter f := by
 rw [List.take_add_one, h, List.filter_append]
 simp [hf]
def PkRow (base : Nat) (w : World) (v : Value) (L : List Pk) : Prop := w.ownsRow base 41 4 v L.length (L.flatMap pkL)
theorem PkRow.below {base : Nat} {w w' : World} {v : Value} {L : List Pk} (h : PkRow base w v L) (hb : Below w.heap.size w w') : PkRow base w' v L := row_below h hb
theorem PkRow.push {base m : Nat} {w : World} {v : Value} {L : List Pk} {q : Pk} (hm : m = L.length) (h : w.ownsRow base 41 4 v (m + 1) (L.flatMap pkL ++ pkL q)) : PkRow base w v (L ++ [q]) := by
 unfold PkRow
 rw [lAp, List.flatMap_append, ← hm]
 simpa using h
theorem PkRow.nil (base : Nat) (w : World) : PkRow base w (.slice none 0 0) [] := World.ownsRow_nil _ _ _ _
theorem PkRow.form {base : Nat} {w : World} {v : Value} {L : List Pk} (h : PkRow base w v L) : ∃ a c, v = .slice a L.length c := by
 rcases h.2 with ⟨rfl, h2⟩ | ⟨g', cap, cur, rfl, _⟩
 ·exact ⟨none, 0, by rw [h2]⟩
 ·exact ⟨_, _, rfl⟩
theorem PkRow.at {base : Nat} {w : World} {v : Value} {L : List Pk} (h : PkRow base w v L) (hm : L.length ≤ 8796093022208) : PkgsAt (zNew base) w v L :=
 (PkgsAt.of_owns h rfl hm).keep ⟨fun b _ hz => (row_base h b hz).1, Nat.le_refl _, fun _ _ _ h => h⟩
theorem rin2_any (w : World) (Z : Zone) (v : Value) (ps : List Pk) (h : PkgsAt Z w v ps) (p : Pk) :
  Calls Tryz.prog 20 #[v, .agg #[strV p.1, .int .i64 p.2.1, .int .i64 p.2.2.1, .int .i64 p.2.2.2]] w (fun e w' => e = .returned (.bool (inP ps p)) ∧ Below w.heap.size w w') := by
 have h0 := h
 obtain ⟨a, c, rfl, hb, -⟩ := h0
 obtain ⟨n, hnn⟩ : ∃ n, n = ps.length := ⟨_, rfl⟩
 obtain ⟨R, hR⟩ : ∃ R, R = inP ps p := ⟨_, rfl⟩
 rw [← hR]
 unfold inP at hR
 rw [← hnn] at hb h ⊢
 have hnl : n ≤ 8796093022208 := hb.max
 obtain ⟨T, -, hT, -, -⟩ := strV_is p.1
 have heq := fun (x : Pk) (S : ByteArray) (hS : strV x.1 = .string S) W => eqPk2 x p hS hT W
 rw [hT]
 obtain ⟨w1, hw1, hb1, hx1, y1, y2⟩ := aBk w #[.string T, .int .i64 p.2.1, .int .i64 p.2.2.1, .int .i64 p.2.2.2] 41
 obtain ⟨p1, hp1⟩ : ∃ x, x = p.2.1 := ⟨_, rfl⟩
 obtain ⟨p2, hp2⟩ : ∃ x, x = p.2.2.1 := ⟨_, rfl⟩
 obtain ⟨p3, hp3⟩ : ∃ x, x = p.2.2.2 := ⟨_, rfl⟩
 rw [← hp1, ← hp2, ← hp3] at hx1 hw1 ⊢
 simp only [← hp1, ← hp2, ← hp3] at heq
 have HX := hdL hx1; have HB := hdL hb1; have HEQ := hdL heq
 have HN := hdL hnn; have HR := hdL hR; have HP := hdL h
 clear hnn hR hb h hx1 hb1 heq hT hp1 hp2 hp3
 go_enter Tryz.func20, Tryz.ntmps20
 go_wp2_with fail
 go_loopw [9] (fun x wr => ∃ k : Nat, x = .int .i64 k ∧ k ≤ n ∧ Hid ((ps.take k).any (fun x => decide (x = p)) = false) ∧ Hid (Below w1.heap.size w1 wr)) (fun x _ => n - (intOf x).toNat)
 case atStart => exact ⟨0, rfl, Nat.zero_le _, rfl, Below.refl _ _⟩
 case round =>
  obtain ⟨k, rfl, hkn, hno, hbw⟩ := hrel
  have H0 := hdL (HB.out.trans (hbw.out.mono HB.out.size))
  by_cases hlt : k < n
  ·obtain ⟨q, hq⟩ : ∃ q, ps[k]? = some q := ⟨_, gEg (by rw [← HN.out]; exact hlt)⟩
   obtain ⟨b, o, S, rfl, hS, c0, c1, c2, c3⟩ := (HP.out.below H0.out).cells hq
   have hgo := HEQ.out q S hS
   obtain ⟨q1, hq1⟩ : ∃ x, x = q.2.1 := ⟨_, rfl⟩
   obtain ⟨q2, hq2⟩ : ∃ x, x = q.2.2.1 := ⟨_, rfl⟩
   obtain ⟨q3, hq3⟩ : ∃ x, x = q.2.2.2 := ⟨_, rfl⟩
   rw [← hq1] at c1; rw [← hq2] at c2; rw [← hq3] at c3
   rw [← hq1, ← hq2, ← hq3] at hgo
   have hx := (hbw.out.block _ (loh HX.out)).trans HX.out
   obtain ⟨w3, hw3, hb3, hx3, z1, z2⟩ := aBk wr #[.string S, .int .i64 q1, .int .i64 q2, .int .i64 q3] 41
   have hy := (hb3.block _ (loh hx)).trans hx
   obtain ⟨e0, e1, e2, e3⟩ := cells4 hy
   obtain ⟨k0, k1, k2, k3⟩ := cells4 hx3
   have H3 := hdL (hbw.out.trans (hb3.mono hbw.out.size))
   have HQ := hdL hq
   clear hq hS hq1 hq2 hq3 hx hx3 hy hb3
   cases hd : decide (q = p)
   ·simp only [hd] at hgo
    have HNO := hdL (any_takes hno.out HQ.out (P := fun x => decide (x = p)) hd)
    clear hd
    go_wp2_with fail
    go_roundw
    case rel => exact ⟨k + 1, by go_num, hlt, HNO, H3⟩
    case measure => simp [intOf]; omega
   ·simp only [hd] at hgo
    have HY := hdL (show R = true by rw [HR.out]; exact any_yes HQ.out (P := fun x => decide (x = p)) hd)
    clear hd
    go_wp2_with fail
    go_ret
    exact ⟨by (rw [HY.out]; rfl), HB.out.trans (H3.out.mono HB.out.size)⟩
  ·obtain rfl : k = n := by omega
   have HY := hdL (show R = false by
    have := hno.out
    rw [tLe (by rw [← HN.out]; omega)] at this
    rw [HR.out]; exact this)
   go_wp2_with fail
   go_ret
   exact ⟨by (rw [HY.out]; rfl), H0.out⟩
theorem cmpI_lt {p q : Pk} : decide (pkCmpI p q < 0) = pkLt p q := by
 unfold pkCmpI
 cases h : pkLt p q
 ·by_cases e : p = q <;> simp [e]
 ·simp
theorem cmpI_gt {p q : Pk} : decide (0 < pkCmpI p q) = pkLt q p := by
 unfold pkCmpI
 cases h : pkLt p q
 ·by_cases e : p = q
  ·subst e; simp [pkLt_irr]
  ·cases h2 : pkLt q p
   ·exact absurd (pkLt_tot h h2) e
   ·simp [e]
 ·rw [pkLt_asymm h]; simp
theorem row_mono {w : World} {base base' : Nat} {e : TypeId} {size : Nat} {v : Value} {n : Nat} {xs : List Value} (h : w.ownsRow base e size v n xs) (hb : base' ≤ base) : w.ownsRow base' e size v n xs := by
 obtain ⟨h1, h2⟩ := h
 refine ⟨h1, ?_⟩
 rcases h2 with h2 | ⟨g, cap, cur, rfl, h3⟩
 ·exact .inl h2
 ·exact .inr ⟨g, cap, cur, rfl, Nat.le_trans hb h3.1, h3.2⟩
theorem rwith_any (w : World) (Z : Zone) (v : Value) (ps : List Pk) (h : PkgsAt Z w v ps) (hl : ps.length ≤ 100000) (p : Pk) :
  Calls Tryz.prog 56 #[v, .agg #[strV p.1, .int .i64 p.2.1, .int .i64 p.2.2.1, .int .i64 p.2.2.2]] w (fun e w' => ∃ v', e = .returned v' ∧ PkRow w.heap.size w' v' (withL ps p) ∧ Below w.heap.size w w') := by
 have h0 := h
 obtain ⟨a, c, rfl, hb, -⟩ := h0
 obtain ⟨n, hnn⟩ : ∃ n, n = ps.length := ⟨_, rfl⟩
 rw [← hnn] at hb h hl ⊢
 obtain ⟨iP, hiP, hzP0, hzP1, hzP2⟩ := info_parts infoPkg
 have HI := hdL (And.intro hiP (And.intro hzP0 (And.intro hzP1 hzP2)))
 obtain ⟨T, -, hT, -, -⟩ := strV_is p.1
 rw [hT]
 obtain ⟨w1, hw1, hb1, hx1, y1, y2⟩ := aBk w #[.string T, .int .i64 p.2.1, .int .i64 p.2.2.1, .int .i64 p.2.2.2] 41
 obtain ⟨p1, hp1⟩ : ∃ x, p.2.1 = x := ⟨_, rfl⟩
 obtain ⟨p2, hp2⟩ : ∃ x, p.2.2.1 = x := ⟨_, rfl⟩
 obtain ⟨p3, hp3⟩ : ∃ x, p.2.2.2 = x := ⟨_, rfl⟩
 rw [hp1, hp2, hp3] at hx1 hw1 ⊢
 have HX := hdL hx1; have HB := hdL hb1; have HT := hdL hT; have HPX := hdL (And.intro hp1 (And.intro hp2 hp3))
 have HN := hdL hnn; have HP := hdL h
 clear hnn hb h hx1 hb1 hT hp1 hp2 hp3 hiP hzP0 hzP1 hzP2
 go_enter Tryz.func56, Tryz.ntmps56
 go_wp2_with fail
 go_loopw [5, 12] (fun x i wr => ∃ (k m : Nat) (L : List Pk) (a : Option Addr) (c : Nat), x = .slice a m c ∧ i = .int .i64 k ∧ k ≤ n ∧ m ≤ k + 0 ∧ Hid (m = L.length) ∧ Hid (L = [] ++ (ps.take k).filter (fun x => pkLt x p)) ∧ Hid (PkRow w1.heap.size wr (.slice a m c) L) ∧ Hid (Below w1.heap.size w1 wr)) (fun _ i _ => n - (intOf i).toNat)
 case atStart => exact ⟨0, 0, [], none, 0, rfl, rfl, Nat.zero_le _, Nat.zero_le _, hdL rfl, hdL rfl, hdL (PkRow.nil _ _), hdL (Below.refl _ _)⟩
 case round =>
  obtain ⟨k, m, L, a, c, rfl, rfl, hkn, hmk, hm, hL, hrow, hbw⟩ := hrel
  have H0 := hdL (HB.out.trans (hbw.out.mono HB.out.size))
  by_cases hlt : k < n
  ·obtain ⟨q, hq⟩ : ∃ q, ps[k]? = some q := ⟨_, gEg (by rw [← HN.out]; exact hlt)⟩
   obtain ⟨b, o, S, rfl, hS, c0, c1, c2, c3⟩ := (HP.out.below H0.out).cells hq
   have hfy := filt_yes (f := (fun x => pkLt x p)) hq
   have hfn := filt_no (f := (fun x => pkLt x p)) hq
   have hcm := fun (W : World) (_ : True) => rpcmp_any W q p
   rw [hS, HT.out] at hcm
   obtain ⟨C, hC⟩ : ∃ C, C = pkCmpI q p := ⟨_, rfl⟩
   have hcd : decide (C < 0) = pkLt q p := by rw [hC]; exact cmpI_lt
   rw [← hC] at hcm
   obtain ⟨q1, hq1⟩ : ∃ x, x = q.2.1 := ⟨_, rfl⟩
   obtain ⟨q2, hq2⟩ : ∃ x, x = q.2.2.1 := ⟨_, rfl⟩
   obtain ⟨q3, hq3⟩ : ∃ x, x = q.2.2.2 := ⟨_, rfl⟩
   rw [← hq1] at c1; rw [← hq2] at c2; rw [← hq3] at c3
   simp only [← hq1, ← hq2, ← hq3, HPX.out.1, HPX.out.2.1, HPX.out.2.2] at hcm
   have hx := (hbw.out.block _ (loh HX.out)).trans HX.out
   obtain ⟨w3, hw3, hb3, hx3, z1, z2⟩ := aBk wr #[.string S, .int .i64 q1, .int .i64 q2, .int .i64 q3] 41
   obtain ⟨b3, hb3e⟩ : ∃ b, wr.heap.size = b := ⟨_, rfl⟩
   rw [hb3e] at hx3
   have hy := (hb3.block _ (loh hx)).trans hx
   obtain ⟨e0, e1, e2, e3⟩ := cells4 hy
   obtain ⟨k0, k1, k2, k3⟩ := cells4 hx3
   have H3 := hdL (hbw.out.trans (hb3.mono hbw.out.size)); have HR3 := hdL (hrow.out.below hb3); have HX3 := hdL hx3; have HCM := hdL hcm; have HS := hdL (And.intro hS (And.intro hq1 (And.intro hq2 hq3)))
   have HFY := hdL hfy; have HFN := hdL hfn
   clear hq hS hq1 hq2 hq3 hx3 hb3 hcm hfy hfn z1 z2 hx hy hC
   cases hf : pkLt q p
   ·rw [hf] at hcd
    have HF := hdL (HFN.out hf)
    clear hf
    go_wp2_with fail
    refine (HCM.out _ trivial).mono ?_
    rintro e w4 ⟨rfl, h4⟩
    have H4 := hdL (H3.out.trans (h4.mono H3.out.size)); have HR4 := hdL (HR3.out.below h4)
    clear h4 k0 k1 k2 k3
    go_wp2_with fail
    go_roundw
    case rel => exact ⟨k + 1, m, L, a, c, rfl, by go_num, hlt, by omega, hm, hdL (by rw [HF.out]; exact hL.out), HR4, H4⟩
    case measure => simp [intOf]; omega
   ·rw [hf] at hcd
    have HF := hdL (HFY.out hf)
    clear hf
    go_wp2_with fail
    refine (HCM.out _ trivial).mono ?_
    rintro e w4 ⟨rfl, h4⟩
    have H4 := hdL (H3.out.trans (h4.mono H3.out.size))
    have hx4 := (h4.block _ (loh HX3.out)).trans HX3.out
    have hr4 := HR3.out.below h4
    obtain ⟨k0, k1, k2, k3⟩ := cells4 hx4
    obtain ⟨w5, hw5, hb5, hx5, z1, z2⟩ := aBk w4 #[.string S, .int .i64 q1, .int .i64 q2, .int .i64 q3] 41
    obtain ⟨b5, hb5e⟩ : ∃ b, w4.heap.size = b := ⟨_, rfl⟩
    rw [hb5e] at hx5
    have H5 := hdL (H4.out.trans (hb5.mono H4.out.size))
    have HSRC := hdL (src_pk (q := q) HS.out.1 (by rw [← HS.out.2.1, ← HS.out.2.2.1, ← HS.out.2.2.2]; exact hx5))
    have hrm := hr4.below hb5
    have HRB := hdL (fun g hg => (row_base hrm g hg).1)
    unfold PkRow at hrm
    rw [← hm.out] at hrm
    have HRM := hdL hrm
    clear hb5 hx5 hrm z1 z2
    clear h4 hx4 hr4
    go_wp2_with (first | (at_builtin; refine wpList_append_srcs rfl (.tmp 20) (.tmp 22) 22 22 rfl w1.heap.size 41 iP _ 4 40 Tryz.underlying22 HI.out.1 HI.out.2.1 HI.out.2.2.1 HI.out.2.2.2 rfl (by decide) (.slice a m c) rfl m _ HRM.out _ rfl 1 (pkL q) HSRC.out (by unfold maxLen; omega) (by omega) H5.out.size ?_; intro a' c' w6 hown hgrow _ _; have HOWN := hdL hown; have HGROW := hdL hgrow; clear hown hgrow) | fail)
    go_roundw
    case rel => exact ⟨k + 1, m + 1, L ++ [q], a', c', rfl, by go_num, hlt, by omega, hdL (by rw [lAp, hm.out]; rfl), hdL (by rw [HF.out, ← List.append_assoc, ← hL.out]), hdL (PkRow.push hm.out HOWN.out), hdL (below_grownR H5.out HGROW.out HRB.out)⟩
    case measure => simp [intOf]; omega
  ·obtain rfl : k = n := by omega
   have hL2 := hL.out
   rw [tLe (by rw [← HN.out]; exact Nat.le_refl _)] at hL2
   have HL2 := hdL hL2
   clear hL2
   have hx := (hbw.out.block _ (loh HX.out)).trans HX.out
   obtain ⟨e0, e1, e2, e3⟩ := cells4 hx
   obtain ⟨w5, hw5, hb5, hx5, z1, z2⟩ := aBk wr #[.string T, .int .i64 p1, .int .i64 p2, .int .i64 p3] 41
   obtain ⟨b5, hb5e⟩ : ∃ b, wr.heap.size = b := ⟨_, rfl⟩
   rw [hb5e] at hx5
   have H5 := hdL (hbw.out.trans (hb5.mono hbw.out.size))
   have HSRC := hdL (src_pk (q := p) HT.out (by rw [HPX.out.1, HPX.out.2.1, HPX.out.2.2]; exact hx5))
   have hrm := hrow.out.below hb5
   have HRB := hdL (fun g hg => (row_base hrm g hg).1)
   unfold PkRow at hrm
   rw [← hm.out] at hrm
   have HRM := hdL hrm
   clear hb5 hx5 hrm z1 z2
   clear hx
   go_wp2_with (first | (at_builtin; refine wpList_append_srcs rfl (.tmp 25) (.tmp 27) 22 22 rfl w1.heap.size 41 iP _ 4 40 Tryz.underlying22 HI.out.1 HI.out.2.1 HI.out.2.2.1 HI.out.2.2.2 rfl (by decide) (.slice a m c) rfl m _ HRM.out _ rfl 1 (pkL p) HSRC.out (by unfold maxLen; omega) (by omega) H5.out.size ?_; intro a' c' w6 hown hgrow _ _; have HOWN := hdL hown; have HGROW := hdL hgrow; clear hown hgrow) | fail)
   have HROW6 := hdL (PkRow.push hm.out HOWN.out); have HB6 := hdL (below_grownR H5.out HGROW.out HRB.out)
   obtain ⟨L0, hL0⟩ : ∃ L0, L0 = L ++ [p] := ⟨_, rfl⟩
   rw [← hL0] at HROW6
   have HM1 := hdL (show m + 1 = L0.length by rw [hL0, lAp, hm.out]; rfl)
   have HL0 := hdL (show L0 = ps.filter (fun x => pkLt x p) ++ [p] by rw [hL0, HL2.out]; rfl)
   clear hL0 e0 e1 e2 e3 hrow HRM HOWN HGROW HRB H5 HSRC
   obtain ⟨N, rfl⟩ : ∃ N, N = k := ⟨k, rfl⟩
   obtain ⟨m0, rfl⟩ : ∃ x, x = m := ⟨m, rfl⟩
   clear hm hL HL2 hbw H0 hkn hlt
   go_loopw [5, 31] (fun x i wr => ∃ (k m : Nat) (L : List Pk) (a : Option Addr) (c : Nat), x = .slice a m c ∧ i = .int .i64 k ∧ k ≤ N ∧ m ≤ k + (m0 + 1) ∧ Hid (m = L.length) ∧ Hid (L = L0 ++ (ps.take k).filter (fun x => pkLt p x)) ∧ Hid (PkRow w1.heap.size wr (.slice a m c) L) ∧ Hid (Below w1.heap.size w1 wr)) (fun _ i _ => N - (intOf i).toNat)
   case atStart => exact ⟨0, m0 + 1, L0, a', c', rfl, rfl, Nat.zero_le _, by omega, HM1, hdL (by simp), HROW6, HB6⟩
   case round =>
    obtain ⟨k, m, L, a, c, rfl, rfl, hkn, hmk, hm, hL, hrow, hbw⟩ := hrel
    have H0 := hdL (HB.out.trans (hbw.out.mono HB.out.size))
    by_cases hlt : k < N
    ·obtain ⟨q, hq⟩ : ∃ q, ps[k]? = some q := ⟨_, gEg (by rw [← HN.out]; exact hlt)⟩
     obtain ⟨b, o, S, rfl, hS, c0, c1, c2, c3⟩ := (HP.out.below H0.out).cells hq
     have hfy := filt_yes (f := (fun x => pkLt p x)) hq
     have hfn := filt_no (f := (fun x => pkLt p x)) hq
     have hcm := fun (W : World) (_ : True) => rpcmp_any W q p
     rw [hS, HT.out] at hcm
     obtain ⟨C, hC⟩ : ∃ C, C = pkCmpI q p := ⟨_, rfl⟩
     have hcd : decide (0 < C) = pkLt p q := by rw [hC]; exact cmpI_gt
     rw [← hC] at hcm
     obtain ⟨q1, hq1⟩ : ∃ x, x = q.2.1 := ⟨_, rfl⟩
     obtain ⟨q2, hq2⟩ : ∃ x, x = q.2.2.1 := ⟨_, rfl⟩
     obtain ⟨q3, hq3⟩ : ∃ x, x = q.2.2.2 := ⟨_, rfl⟩
     rw [← hq1] at c1; rw [← hq2] at c2; rw [← hq3] at c3
     simp only [← hq1, ← hq2, ← hq3, HPX.out.1, HPX.out.2.1, HPX.out.2.2] at hcm
     have hx := (hbw.out.block _ (loh HX.out)).trans HX.out
     obtain ⟨w3, hw3, hb3, hx3, z1, z2⟩ := aBk wr #[.string S, .int .i64 q1, .int .i64 q2, .int .i64 q3] 41
     obtain ⟨b3, hb3e⟩ : ∃ b, wr.heap.size = b := ⟨_, rfl⟩
     rw [hb3e] at hx3
     have hy := (hb3.block _ (loh hx)).trans hx
     obtain ⟨e0, e1, e2, e3⟩ := cells4 hy
     obtain ⟨k0, k1, k2, k3⟩ := cells4 hx3
     have H3 := hdL (hbw.out.trans (hb3.mono hbw.out.size)); have HR3 := hdL (hrow.out.below hb3); have HX3 := hdL hx3; have HCM := hdL hcm; have HS := hdL (And.intro hS (And.intro hq1 (And.intro hq2 hq3)))
     have HFY := hdL hfy; have HFN := hdL hfn
     clear hq hS hq1 hq2 hq3 hx3 hb3 hcm hfy hfn z1 z2 hx hy hC
     cases hf : pkLt p q
     ·rw [hf] at hcd
      have HF := hdL (HFN.out hf)
      clear hf
      go_wp2_with fail
      refine (HCM.out _ trivial).mono ?_
      rintro e w4 ⟨rfl, h4⟩
      have H4 := hdL (H3.out.trans (h4.mono H3.out.size)); have HR4 := hdL (HR3.out.below h4)
      clear h4 k0 k1 k2 k3
      go_wp2_with fail
      go_roundw
      case rel => exact ⟨k + 1, m, L, a, c, rfl, by go_num, hlt, by omega, hm, hdL (by rw [HF.out]; exact hL.out), HR4, H4⟩
      case measure => simp [intOf]; omega
     ·rw [hf] at hcd
      have HF := hdL (HFY.out hf)
      clear hf
      go_wp2_with fail
      refine (HCM.out _ trivial).mono ?_
      rintro e w4 ⟨rfl, h4⟩
      have H4 := hdL (H3.out.trans (h4.mono H3.out.size))
      have hx4 := (h4.block _ (loh HX3.out)).trans HX3.out
      have hr4 := HR3.out.below h4
      obtain ⟨k0, k1, k2, k3⟩ := cells4 hx4
      obtain ⟨w5, hw5, hb5, hx5, z1, z2⟩ := aBk w4 #[.string S, .int .i64 q1, .int .i64 q2, .int .i64 q3] 41
      obtain ⟨b5, hb5e⟩ : ∃ b, w4.heap.size = b := ⟨_, rfl⟩
      rw [hb5e] at hx5
      have H5 := hdL (H4.out.trans (hb5.mono H4.out.size))
      have HSRC := hdL (src_pk (q := q) HS.out.1 (by rw [← HS.out.2.1, ← HS.out.2.2.1, ← HS.out.2.2.2]; exact hx5))
      have hrm := hr4.below hb5
      have HRB := hdL (fun g hg => (row_base hrm g hg).1)
      unfold PkRow at hrm
      rw [← hm.out] at hrm
      have HRM := hdL hrm
      clear hb5 hx5 hrm z1 z2
      clear h4 hx4 hr4
      go_wp2_with (first | (at_builtin; refine wpList_append_srcs rfl (.tmp 39) (.tmp 41) 22 22 rfl w1.heap.size 41 iP _ 4 40 Tryz.underlying22 HI.out.1 HI.out.2.1 HI.out.2.2.1 HI.out.2.2.2 rfl (by decide) (.slice a m c) rfl m _ HRM.out _ rfl 1 (pkL q) HSRC.out (by unfold maxLen; omega) (by omega) H5.out.size ?_; intro a' c' w6 hown hgrow _ _; have HOWN := hdL hown; have HGROW := hdL hgrow; clear hown hgrow) | fail)
      go_roundw
      case rel => exact ⟨k + 1, m + 1, L ++ [q], a', c', rfl, by go_num, hlt, by omega, hdL (by rw [lAp, hm.out]; rfl), hdL (by rw [HF.out, ← List.append_assoc, ← hL.out]), hdL (PkRow.push hm.out HOWN.out), hdL (below_grownR H5.out HGROW.out HRB.out)⟩
      case measure => simp [intOf]; omega
    ·obtain rfl : k = N := by omega
     have hL2 := hL.out
     rw [tLe (by rw [← HN.out]; exact Nat.le_refl _)] at hL2
     have HL2 := hdL hL2
     clear hL2
     have HEND := hdL (show L = withL ps p by rw [HL2.out, HL0.out]; unfold withL; rw [List.append_assoc]; rfl)
     go_wp2_with fail
     go_ret
     refine ⟨_, rfl, ?_, H0.out⟩
     rw [← HEND.out]
     exact row_mono hrow.out HB.out.size
def RecsAt (Z : Zone) (w : World) (v : Value) (rs : List Rc) : Prop := ∃ a c, v = .slice a rs.length c ∧ Bnd rs.length c a ∧
 (rs ≠ [] → ∃ b o, a = some ⟨b, o, none⟩ ∧ Z b ∧ b < w.heap.size ∧ ∀ i r, rs[i]? = some r → ∃ vs, RecAt Z w vs r ∧ ∀ j u, vs[j]? = some u → w.cell? ⟨b, o + i * 8 + j, none⟩ = some u)
theorem RecsAt.keep {Z Z' : Zone} {w w' : World} (hk : Keep Z Z' w w') {v : Value} {rs : List Rc} (h : RecsAt Z w v rs) : RecsAt Z' w' v rs := by
 obtain ⟨a, c, h1, h2, h3⟩ := h
 refine ⟨a, c, h1, h2, fun hne => ?_⟩
 obtain ⟨b, o, e, hz, hl, hc⟩ := h3 hne
 refine ⟨b, o, e, hk.zone b hl hz, Nat.lt_of_lt_of_le hl hk.size, fun i r hi => ?_⟩
 obtain ⟨vs, h4, h5⟩ := hc i r hi
 exact ⟨vs, h4.keep hk, fun j u hj => hk.cell _ _ hz (h5 j u hj)⟩
theorem RecsAt.below {Z : Zone} {w w' : World} {v : Value} {rs : List Rc} (h : RecsAt Z w v rs) (hb : Below w.heap.size w w') : RecsAt Z w' v rs := h.keep (Keep.below hb)
theorem RecsAt.cells {Z : Zone} {w : World} {a : Option Addr} {n c k : Nat} {rs : List Rc} {r : Rc} (h : RecsAt Z w (.slice a n c) rs) (hk : rs[k]? = some r) :
  ∃ (b o : Nat) (s t : ByteArray) (a1 : Option Addr) (n1 c1 : Nat) (a2 : Option Addr) (n2 c2 : Nat) (a3 : Option Addr) (n3 c3 : Nat), a = some ⟨b, o, none⟩ ∧ strV r.pkg.1 = .string s ∧
   RecAt Z w [.string s, .int .i64 r.pkg.2.1, .int .i64 r.pkg.2.2.1, .int .i64 r.pkg.2.2.2, .string t, .slice a1 n1 c1, .slice a2 n2 c2, .slice a3 n3 c3] r ∧
   w.cell? ⟨b, o + k * 8, none⟩ = some (.string s) ∧ w.cell? ⟨b, o + k * 8 + 1, none⟩ = some (.int .i64 r.pkg.2.1) ∧ w.cell? ⟨b, o + k * 8 + 2, none⟩ = some (.int .i64 r.pkg.2.2.1) ∧ w.cell? ⟨b, o + k * 8 + 3, none⟩ = some (.int .i64 r.pkg.2.2.2) ∧
   w.cell? ⟨b, o + k * 8 + 4, none⟩ = some (.string t) ∧ w.cell? ⟨b, o + k * 8 + 5, none⟩ = some (.slice a1 n1 c1) ∧ w.cell? ⟨b, o + k * 8 + 6, none⟩ = some (.slice a2 n2 c2) ∧ w.cell? ⟨b, o + k * 8 + 7, none⟩ = some (.slice a3 n3 c3) := by
 obtain ⟨a', c', e, hb, hc⟩ := h
 obtain ⟨rfl, rfl, rfl⟩ := Value.slice.inj e
 obtain ⟨b, o, rfl, -, -, hcs⟩ := hc (fun e => by rw [e] at hk; cases hk)
 obtain ⟨vs, h1, h2⟩ := hcs k r hk
 obtain ⟨s, t, a1, n1, c1, a2, n2, c2, a3, n3, c3, rfl, hs, -⟩ := h1.shape
 exact ⟨b, o, s, t, a1, n1, c1, a2, n2, c2, a3, n3, c3, rfl, hs, h1, h2 0 _ rfl, h2 1 _ rfl, h2 2 _ rfl, h2 3 _ rfl, h2 4 _ rfl, h2 5 _ rfl, h2 6 _ rfl, h2 7 _ rfl⟩
def RefAt (Z : Zone) (w : World) (v : Value) (st : St) : Prop := ∃ v1 v2, v = .agg #[v1, v2] ∧ PkgsAt Z w v1 st.seeds ∧ RecsAt Z w v2 st.recs
theorem RefAt.keep {Z Z' : Zone} {w w' : World} (hk : Keep Z Z' w w') {v : Value} {st : St} (h : RefAt Z w v st) : RefAt Z' w' v st := by
 obtain ⟨v1, v2, h1, h2, h3⟩ := h
 exact ⟨v1, v2, h1, h2.keep hk, h3.keep hk⟩
theorem RefAt.below {Z : Zone} {w w' : World} {v : Value} {st : St} (h : RefAt Z w v st) (hb : Below w.heap.size w w') : RefAt Z w' v st := h.keep (Keep.below hb)
theorem RefAt.form {Z : Zone} {w : World} {v : Value} {st : St} (h : RefAt Z w v st) : ∃ a1 c1 a2 c2, v = .agg #[.slice a1 st.seeds.length c1, .slice a2 st.recs.length c2] ∧ PkgsAt Z w (.slice a1 st.seeds.length c1) st.seeds ∧ RecsAt Z w (.slice a2 st.recs.length c2) st.recs := by
 obtain ⟨v1, v2, rfl, h1, h2⟩ := h
 have h1' := h1
 have h2' := h2
 obtain ⟨a1, c1, rfl, -⟩ := h1'
 obtain ⟨a2, c2, rfl, -⟩ := h2'
 exact ⟨a1, c1, a2, c2, rfl, h1, h2⟩
theorem riss_any (w : World) (Z : Zone) (v : Value) (st : St) (h : RefAt Z w v st) (p : Pk) :
  Calls Tryz.prog 18 #[v, .agg #[strV p.1, .int .i64 p.2.1, .int .i64 p.2.2.1, .int .i64 p.2.2.2]] w (fun e w' => e = .returned (.bool (st.isSeed p)) ∧ Below w.heap.size w w') := by
 obtain ⟨a, c, a2, c2, rfl, h, -⟩ := h.form
 have hb : Bnd st.seeds.length c a := by
  have h0 := h
  obtain ⟨a', c', e, hb, -⟩ := h0
  obtain ⟨rfl, -, rfl⟩ := Value.slice.inj e
  exact hb
 obtain ⟨ps, hps⟩ : ∃ ps, ps = st.seeds := ⟨_, rfl⟩
 obtain ⟨n2, hn2⟩ : ∃ n, n = st.recs.length := ⟨_, rfl⟩
 obtain ⟨R, hR⟩ : ∃ R, R = st.isSeed p := ⟨_, rfl⟩
 rw [← hR]
 unfold St.isSeed at hR
 rw [← hn2]
 rw [← hps] at hb h hR ⊢
 obtain ⟨n, hnn⟩ : ∃ n, n = ps.length := ⟨_, rfl⟩
 clear hn2
 rw [← hnn] at hb h ⊢
 have hnl : n ≤ 8796093022208 := hb.max
 obtain ⟨T, -, hT, -, -⟩ := strV_is p.1
 have heq := fun (x : Pk) (S : ByteArray) (hS : strV x.1 = .string S) W => eqPk2 x p hS hT W
 rw [hT]
 obtain ⟨w0, hw0, hb0, hx0, y3, y4⟩ := aBk w #[.slice a n c, .slice a2 n2 c2] 28
 obtain ⟨w1, hw1, hb1, hx1, y1, y2⟩ := aBk w0 #[.string T, .int .i64 p.2.1, .int .i64 p.2.2.1, .int .i64 p.2.2.2] 41
 obtain ⟨p1, hp1⟩ : ∃ x, x = p.2.1 := ⟨_, rfl⟩
 obtain ⟨p2, hp2⟩ : ∃ x, x = p.2.2.1 := ⟨_, rfl⟩
 obtain ⟨p3, hp3⟩ : ∃ x, x = p.2.2.2 := ⟨_, rfl⟩
 rw [← hp1, ← hp2, ← hp3] at hx1 hw1 ⊢
 simp only [← hp1, ← hp2, ← hp3] at heq
 have g0 := (hb1.block _ (by omega)).trans hx0
 obtain ⟨s0, s1⟩ := cells2 g0
 obtain ⟨B1, hB1⟩ : ∃ b, w0.heap.size = b := ⟨_, rfl⟩
 rw [hB1] at hx1
 have HX := hdL hx1; have HB := hdL (hb0.trans (hb1.mono hb0.size)); have HEQ := hdL heq
 have HN := hdL hnn; have HR := hdL hR; have HP := hdL h
 clear hnn hR hb h hx1 hb1 heq hT hp1 hp2 hp3 hps hx0 hb0 g0 y1 y2 y3 y4
 go_enter Tryz.func18, Tryz.ntmps18
 go_wp2_with fail
 go_loopw [10] (fun x wr => ∃ k : Nat, x = .int .i64 k ∧ k ≤ n ∧ Hid ((ps.take k).any (fun x => decide (x = p)) = false) ∧ Hid (Below w1.heap.size w1 wr)) (fun x _ => n - (intOf x).toNat)
 case atStart => exact ⟨0, rfl, Nat.zero_le _, rfl, Below.refl _ _⟩
 case round =>
  obtain ⟨k, rfl, hkn, hno, hbw⟩ := hrel
  have H0 := hdL (HB.out.trans (hbw.out.mono HB.out.size))
  by_cases hlt : k < n
  ·obtain ⟨q, hq⟩ : ∃ q, ps[k]? = some q := ⟨_, gEg (by rw [← HN.out]; exact hlt)⟩
   obtain ⟨b, o, S, rfl, hS, c0, c1, c2, c3⟩ := (HP.out.below H0.out).cells hq
   have hgo := HEQ.out q S hS
   obtain ⟨q1, hq1⟩ : ∃ x, x = q.2.1 := ⟨_, rfl⟩
   obtain ⟨q2, hq2⟩ : ∃ x, x = q.2.2.1 := ⟨_, rfl⟩
   obtain ⟨q3, hq3⟩ : ∃ x, x = q.2.2.2 := ⟨_, rfl⟩
   rw [← hq1] at c1; rw [← hq2] at c2; rw [← hq3] at c3
   rw [← hq1, ← hq2, ← hq3] at hgo
   have hx := (hbw.out.block _ (loh HX.out)).trans HX.out
   obtain ⟨w3, hw3, hb3, hx3, z1, z2⟩ := aBk wr #[.string S, .int .i64 q1, .int .i64 q2, .int .i64 q3] 41
   have hy := (hb3.block _ (loh hx)).trans hx
   obtain ⟨e0, e1, e2, e3⟩ := cells4 hy
   obtain ⟨k0, k1, k2, k3⟩ := cells4 hx3
   have H3 := hdL (hbw.out.trans (hb3.mono hbw.out.size))
   have HQ := hdL hq
   clear hq hS hq1 hq2 hq3 hx hx3 hy hb3
   cases hd : decide (q = p)
   ·simp only [hd] at hgo
    have HNO := hdL (any_takes hno.out HQ.out (P := fun x => decide (x = p)) hd)
    clear hd
    go_wp2_with fail
    go_roundw
    case rel => exact ⟨k + 1, by go_num, hlt, HNO, H3⟩
    case measure => simp [intOf]; omega
   ·simp only [hd] at hgo
    have HY := hdL (show R = true by rw [HR.out]; exact any_yes HQ.out (P := fun x => decide (x = p)) hd)
    clear hd
    go_wp2_with fail
    go_ret
    exact ⟨by (rw [HY.out]; rfl), HB.out.trans (H3.out.mono HB.out.size)⟩
  ·obtain rfl : k = n := by omega
   have HY := hdL (show R = false by
    have := hno.out
    rw [tLe (by rw [← HN.out]; omega)] at this
    rw [HR.out]; exact this)
   go_wp2_with fail
   go_ret
   exact ⟨by (rw [HY.out]; rfl), H0.out⟩
def RRecP (st : St) (p : Pk) (Z : Zone) (w : World) (e : Ending) (w' : World) : Prop :=
 ∃ vs b, e = .returned (.tuple #[.agg vs.toArray, .bool b]) ∧ Below w.heap.size w w' ∧ ((∃ r, st.rec? p = some r ∧ b = true ∧ RecAt Z w' vs r) ∨ (st.rec? p = none ∧ b = false ∧ vs = zero8))
theorem find_next {rs : List Rc} {p : Pk} {k : Nat} {r : Rc} (h : rs[k]? = some r) (hn : (rs.take k).find? (fun r => decide (r.pkg = p)) = none) (hd : decide (r.pkg = p) = false) : (rs.take (k + 1)).find? (fun r => decide (r.pkg = p)) = none := by
 rw [List.take_add_one, h, List.find?_append, hn]
 simp [hd]
theorem find_here {rs : List Rc} {p : Pk} {k : Nat} {r : Rc} (h : rs[k]? = some r) (hn : (rs.take k).find? (fun r => decide (r.pkg = p)) = none) (hd : decide (r.pkg = p) = true) : rs.find? (fun r => decide (r.pkg = p)) = some r := by
 have hlt := (gEs.1 h).1
 have e : rs = rs.take k ++ r :: rs.drop (k + 1) := by
  rw [← (gEs.1 h).2, ← List.drop_eq_getElem_cons hlt, List.take_append_drop]
 rw [e, List.find?_append, hn]
 simp [hd]
theorem rrec_any (w : World) (Z : Zone) (v : Value) (st : St) (h : RefAt Z w v st) (p : Pk) :
  Calls Tryz.prog 50 #[v, .agg #[strV p.1, .int .i64 p.2.1, .int .i64 p.2.2.1, .int .i64 p.2.2.2]] w (RRecP st p Z w) := by
 obtain ⟨a2, c2, a, c, rfl, -, h⟩ := h.form
 have hb : Bnd st.recs.length c a := by
  have h0 := h
  obtain ⟨a', c', e, hb, -⟩ := h0
  obtain ⟨rfl, -, rfl⟩ := Value.slice.inj e
  exact hb
 obtain ⟨rs, hrs⟩ : ∃ rs, rs = st.recs := ⟨_, rfl⟩
 obtain ⟨n2, hn2⟩ : ∃ n, n = st.seeds.length := ⟨_, rfl⟩
 obtain ⟨R, hR⟩ : ∃ R, R = st.rec? p := ⟨_, rfl⟩
 have hend : ∀ e w', (∃ vs b, e = .returned (.tuple #[.agg vs.toArray, .bool b]) ∧ Below w.heap.size w w' ∧ ((∃ r, R = some r ∧ b = true ∧ RecAt Z w' vs r) ∨ (R = none ∧ b = false ∧ vs = zero8))) → RRecP st p Z w e w' := fun e w' h => by
  unfold RRecP
  rw [← hR]
  exact h
 unfold St.rec? at hR
 rw [← hn2]
 rw [← hrs] at hb h hR ⊢
 obtain ⟨n, hnn⟩ : ∃ n, n = rs.length := ⟨_, rfl⟩
 rw [← hnn] at hb h ⊢
 have hnl : n ≤ 8796093022208 := hb.max
 obtain ⟨T, -, hT, -, -⟩ := strV_is p.1
 have heq := fun (x : Pk) (S : ByteArray) (hS : strV x.1 = .string S) W => eqPk2 x p hS hT W
 rw [hT]
 obtain ⟨w0, hw0, hb0, hx0, y1, y2⟩ := aBk w #[.slice a2 n2 c2, .slice a n c] 28
 obtain ⟨wp, hwp, hbp, hxp, y3, y4⟩ := aBk w0 #[.string T, .int .i64 p.2.1, .int .i64 p.2.2.1, .int .i64 p.2.2.2] 41
 obtain ⟨w1, hw1, hb1, hx1, y5, y6⟩ := aBk wp #[.string ⟨#[]⟩, .int .i64 0, .int .i64 0, .int .i64 0, .string ⟨#[]⟩, .slice none 0 0, .slice none 0 0, .slice none 0 0] 62
 obtain ⟨p1, hp1⟩ : ∃ x, p.2.1 = x := ⟨_, rfl⟩
 obtain ⟨p2, hp2⟩ : ∃ x, p.2.2.1 = x := ⟨_, rfl⟩
 obtain ⟨p3, hp3⟩ : ∃ x, p.2.2.2 = x := ⟨_, rfl⟩
 rw [hp1, hp2, hp3] at hxp hwp ⊢
 simp only [hp1, hp2, hp3] at heq
 obtain ⟨B1, hB1⟩ : ∃ b, w0.heap.size = b := ⟨_, rfl⟩
 obtain ⟨B2, hB2⟩ : ∃ b, wp.heap.size = b := ⟨_, rfl⟩
 have gp := (hb1.block _ (by omega)).trans hxp
 have g0 := ((hbp.trans (hb1.mono hbp.size)).block _ (by omega)).trans hx0
 rw [hB1] at gp; rw [hB2] at hx1
 obtain ⟨s0, s1⟩ := cells2 g0
 have HX := hdL gp; have HR1 := hdL hx1; have HB := hdL ((hb0.trans (hbp.mono hb0.size)).trans (hb1.mono (hb0.trans (hbp.mono hb0.size)).size)); have HEQ := hdL heq
 have HN := hdL hnn; have HR := hdL hR; have HP := hdL h; have HEND := hdL hend
 have HSZ := hdL (show w.heap.size ≤ B2 from by omega)
 clear hnn hR hb h hx1 hb1 heq hT hp1 hp2 hp3 hrs hn2 hx0 hb0 hxp hbp gp g0 hend y1 y2 y3 y4 y5 y6
 go_enter Tryz.func50, Tryz.ntmps50
 go_wp2_with fail
 go_loopw [11] (fun x wr => ∃ k : Nat, x = .int .i64 k ∧ k ≤ n ∧ Hid ((rs.take k).find? (fun r => decide (r.pkg = p)) = none) ∧ Hid (Below w1.heap.size w1 wr)) (fun x _ => n - (intOf x).toNat)
 case atStart => exact ⟨0, rfl, Nat.zero_le _, rfl, Below.refl _ _⟩
 case round =>
  obtain ⟨k, rfl, hkn, hno, hbw⟩ := hrel
  have H0 := hdL (HB.out.trans (hbw.out.mono HB.out.size))
  have hr0 := (hbw.out.block _ (loh HR1.out)).trans HR1.out
  by_cases hlt : k < n
  ·obtain ⟨r, hq⟩ : ∃ r, rs[k]? = some r := ⟨_, gEg (by rw [← HN.out]; exact hlt)⟩
   obtain ⟨b, o, S, t, a1, n1, c1, a3, n3, c3, a4, n4, c4, rfl, hS, hat, d0, d1, d2, d3, d4, d5, d6, d7⟩ := HP.out.cells hq
   have d0 := bkp H0.out _ _ d0
   have d1 := bkp H0.out _ _ d1
   have d2 := bkp H0.out _ _ d2
   have d3 := bkp H0.out _ _ d3
   have d4 := bkp H0.out _ _ d4
   have d5 := bkp H0.out _ _ d5
   have d6 := bkp H0.out _ _ d6
   have d7 := bkp H0.out _ _ d7
   have hgo := HEQ.out r.pkg S hS
   obtain ⟨q1, hq1⟩ : ∃ x, r.pkg.2.1 = x := ⟨_, rfl⟩
   obtain ⟨q2, hq2⟩ : ∃ x, r.pkg.2.2.1 = x := ⟨_, rfl⟩
   obtain ⟨q3, hq3⟩ : ∃ x, r.pkg.2.2.2 = x := ⟨_, rfl⟩
   rw [hq1] at d1; rw [hq2] at d2; rw [hq3] at d3
   rw [hq1, hq2, hq3] at hgo hat
   have hx := (hbw.out.block _ (loh HX.out)).trans HX.out
   obtain ⟨w3, hw3, hb3, hx3, z1, z2⟩ := aBk wr #[.string S, .int .i64 q1, .int .i64 q2, .int .i64 q3, .string t, .slice a1 n1 c1, .slice a3 n3 c3, .slice a4 n4 c4] 62
   obtain ⟨B3, hB3⟩ : ∃ b, wr.heap.size = b := ⟨_, rfl⟩
   rw [hB3] at hx3
   have hy := (hb3.block _ (loh hx)).trans hx
   have hr3 := (hb3.block _ (loh hr0)).trans hr0
   obtain ⟨e0, e1, e2, e3⟩ := cells4 hy
   obtain ⟨k0, k1, k2, k3⟩ := cells4 hx3
   have H3 := hdL (hbw.out.trans (hb3.mono hbw.out.size)); have HX3 := hdL hx3; have HAT := hdL hat; have HR3 := hdL hr3
   have HQ := hdL hq
   clear hq hS hq1 hq2 hq3 hx hx3 hy hb3 hat hr3 hr0
   cases hd : decide (r.pkg = p)
   ·simp only [hd] at hgo
    have HNO := hdL (find_next HQ.out hno.out hd)
    clear hd
    go_wp2_with fail
    go_roundw
    case rel => exact ⟨k + 1, by go_num, hlt, HNO, H3⟩
    case measure => simp [intOf]; omega
   ·simp only [hd] at hgo
    have HY := hdL (show R = some r by rw [HR.out]; exact find_here HQ.out hno.out hd)
    clear hd
    have k4 := cOh HX3.out 4
    have k5 := cOh HX3.out 5
    have k6 := cOh HX3.out 6
    have k7 := cOh HX3.out 7
    obtain ⟨u0, u1, u2, u3, u4, u5, u6, u7⟩ := cells8 HR3.out
    have uf := foh HR3.out
    go_wp2_with fail
    obtain ⟨W, hW, hWx, hWb, hWo, hWs⟩ := eight_set HR3.out (.string S) (.int .i64 q1) (.int .i64 q2) (.int .i64 q3) (.string t) (.slice a1 n1 c1) (.slice a3 n3 c3) (.slice a4 n4 c4)
    rw [hW]
    obtain ⟨r0, r1, r2, r3, r4, r5, r6, r7⟩ := cells8 hWx
    refine bodyPost_ret (v := .tuple #[.agg #[.string S, .int .i64 q1, .int .i64 q2, .int .i64 q3, .string t, .slice a1 n1 c1, .slice a3 n3 c3, .slice a4 n4 c4], .bool true]) (by simp [results, Tryz.results50, go_sem, r0, r1, r2, r3, r4, r5, r6, r7]) rfl ?_
    have hbW := hWb _ _ HSZ.out (HB.out.trans (H3.out.mono HB.out.size))
    refine HEND.out _ _ ⟨[.string S, .int .i64 q1, .int .i64 q2, .int .i64 q3, .string t, .slice a1 n1 c1, .slice a3 n3 c3, .slice a4 n4 c4], true, rfl, hbW, .inl ⟨r, HY.out, rfl, HAT.out.below hbW⟩⟩
  ·obtain rfl : k = n := by omega
   have HY := hdL (show R = none by
    have := hno.out
    rw [tLe (by rw [← HN.out]; omega)] at this
    rw [HR.out]; exact this)
   have HR3 := hdL hr0
   obtain ⟨u0, u1, u2, u3, u4, u5, u6, u7⟩ := cells8 HR3.out
   have uf := foh HR3.out
   clear hr0
   go_wp2_with fail
   obtain ⟨W, hW, hWx, hWb, hWo, hWs⟩ := eight_set HR3.out (.string ⟨#[]⟩) (.int .i64 0) (.int .i64 0) (.int .i64 0) (.string ⟨#[]⟩) (.slice none 0 0) (.slice none 0 0) (.slice none 0 0)
   rw [hW]
   obtain ⟨r0, r1, r2, r3, r4, r5, r6, r7⟩ := cells8 hWx
   refine bodyPost_ret (v := .tuple #[.agg #[.string ⟨#[]⟩, .int .i64 0, .int .i64 0, .int .i64 0, .string ⟨#[]⟩, .slice none 0 0, .slice none 0 0, .slice none 0 0], .bool false]) (by simp [results, Tryz.results50, go_sem, r0, r1, r2, r3, r4, r5, r6, r7]) rfl ?_
   exact HEND.out _ _ ⟨zero8, false, rfl, hWb _ _ HSZ.out H0.out, .inr ⟨HY.out, rfl, rfl⟩⟩
end Go.Proofs.YtaagkndhgicifaaGreat
