/- DERIVED. The law TreeMounts, walked. -/
import Derived.Test.YtjcimajkjnjdpaaDoorTreeAlive
import Derived.Test.YtjcimajkjnjdpaaDoorTreeGreat
import Derived.Test.YtjcimajkjnjdpaaDoorTreeArg
import Derived.Test.YtjcimajkjnjdpaaDoorSexpTab
import Derived.Test.YtjcimajkjnjdpaaDoorTreeMtsLaw
import Derived.Test.YtjcimajkjnjdpaaDoorTreeEqual
namespace Go.Proofs.YtjcimajkjnjdpaaDoor
open Go.RowKit
set_option linter.unusedVariables false

section
set_option maxRecDepth 100000
open Go.Shelf Go.ChangeShapes Go.WideShapes
theorem tree_of_arg {H : Type} {enc : TypeId × Value → H} {w : World} {fuel : Nat} {v : Value} (h : Arg enc Tryd.prog w fuel 28 [v]) :
    ∃ (ps : List Pr) (a : Option Addr) (c : Nat), v = .slice a ps.length c ∧ RdFl w a ps ∧ Sl a ps.length c ∧ ps.length ≤ c ∧ c ≤ 4398046511104 ∧ Sz ps := by
  obtain ⟨_, hf⟩ := h.struct Tryd.underlying28
  have f0 : Arg enc Tryd.prog w (fuel - 1) 22 (List.take (Tryd.prog.cellsOf 22) [v]) := hf 0 _ rfl
  rw [show Tryd.prog.cellsOf 22 = 1 from by kernel_rfl] at f0
  exact files_of_arg f0
theorem treeV {H : Type} {enc : TypeId × Value → H} {w : World} {fuel base : Nat} {r : Reach} {v : Value} (o : Value.okWide Tryd.prog w r base 28 v) (h : Arg enc Tryd.prog w fuel 28 v.cells.toList) :
    ∃ (ps : List Pr) (a : Option Addr) (c : Nat), v = .agg #[.slice a ps.length c] ∧ RdFl w a ps ∧ Sl a ps.length c ∧ Sz ps := by
  obtain ⟨cs, rfl, hs⟩ := okWide_struct Tryd.underlying28 o
  rw [show Tryd.prog.cellsOf 28 = 1 from by kernel_rfl] at hs
  obtain ⟨cs⟩ := cs
  have hs : cs.length = 1 := by simpa using hs
  obtain ⟨x, rfl⟩ : ∃ x, cs = [x] := by
    match cs, hs with
    | [x], _ => exact ⟨x, rfl⟩
  obtain ⟨ps, a, c, rfl, h1, h2, _, _, h3⟩ := tree_of_arg (v := x) h
  exact ⟨ps, a, c, rfl, h1, h2, h3⟩
end
section
set_option maxRecDepth 100000
theorem tab_of_laid5 {w : World} (h : laidMetH Tryd.prog [("math/bits.deBruijn32tab", Rows.laid_math_bits_deBruijn32tab), ("math/bits.deBruijn64tab", Rows.laid_math_bits_deBruijn64tab), ("internal/strconv.uint64pow10", Rows.laid_internal_strconv_uint64pow10), ("unicode/utf8.acceptRanges", Rows.laid_unicode_utf8_acceptRanges), ("unicode/utf8.first", Rows.laid_unicode_utf8_first)] w) : Tab w := by
  rw [MakeChecks.laidMetH_plain _ _ _ (by kernel_rfl)] at h
  have h3 := h.tail.tail
  have e : (Rows.laid_internal_strconv_uint64pow10 : DataW Unit) = Lib.tabData .u64 Lib.pow10Tab := by kernel_rfl
  rw [e] at h3
  exact Lib.tabIs_of_head (g := 3) (t := 126) (e := 96) (n := 20) (by kernel_rfl) (by kernel_rfl) Tryd.underlying126 Tryd.underlying96 (by kernel_rfl) (by kernel_rfl) h3
end
theorem str_eq_iff (P Q : ByteArray) : (P.toList == Q.toList) = decide (P.data.toList = Q.data.toList) := by
  rw [Lib.toList_data, Lib.toList_data]
  exact Bool.eq_iff_iff.2 (by simp)
set_option maxRecDepth 100000 in
set_option maxHeartbeats 16000000 in
theorem mounts_law (w : World) (a b : Option Addr) (c d : Nat) (ps qs : List Pr) (P Q : ByteArray) (hr : RdFl w a ps) (hs : Sl a ps.length c) (hsz : Sz ps) (hr' : RdFl w b qs) (hs' : Sl b qs.length d) (hsz' : Sz qs)
    (hP : P.size ≤ 140737488351232) (hQ : Q.size ≤ 140737488351232) (htab : Tab w) :
    Calls Tryd.prog 4 #[.agg #[.slice a ps.length c], .agg #[.slice b qs.length d], .string P, .string Q] w (fun e w' => e = .returned (.bool true) ∧ Below w.heap.size w w') := by
  obtain ⟨n, hnn⟩ : ∃ n, n = ps.length := ⟨_, rfl⟩
  obtain ⟨m, hmm⟩ : ∃ m, m = qs.length := ⟨_, rfl⟩
  have hG := fun W (h : Below w.heap.size w W) => great_any W a c ps (hr.below h) hsz
  have hG' := fun W (h : Below w.heap.size w W) => great_any W b d qs (hr'.below h) hsz'
  have hnl : n ≤ 4398046511104 := by rw [hnn]; exact hsz.len
  have hml : m ≤ 4398046511104 := by rw [hmm]; exact hsz'.len
  rw [← hnn] at hG ⊢
  rw [← hmm] at hG' ⊢
  obtain ⟨w1, hw1, hb1, hx1, y1, y2⟩ := new_cell w (.slice a n c) 28
  obtain ⟨w2, hw2, hb2, hx2, y3, y4⟩ := new_cell w1 (.slice b m d) 28
  obtain ⟨Ba, hBa⟩ : ∃ b, w.heap.size = b := ⟨_, rfl⟩
  obtain ⟨Bb, hBb⟩ : ∃ b, w1.heap.size = b := ⟨_, rfl⟩
  have hb12 := hb1.trans (hb2.mono hb1.size)
  have hx12 := (hb2.block _ (by omega)).trans hx1
  rw [hBa] at hx12; rw [hBb] at hx2
  have hsz2 : w.heap.size = Ba ∧ Bb = Ba + 1 ∧ w2.heap.size = Ba + 2 := by omega
  have hkeep : ∀ W, Below w2.heap.size w2 W → W.heap[Ba]? = some (.cells #[.slice a n c] 28 (0, 0)) ∧ W.heap[Bb]? = some (.cells #[.slice b m d] 28 (0, 0)) := fun W h =>
    ⟨(h.block _ (by omega)).trans hx12, (h.block _ (by omega)).trans hx2⟩
  have HR := Lib.hid hr; have HS := Lib.hid hs; have HN := Lib.hid hnn; have HG := Lib.hid hG; have HT := Lib.hid htab
  have HR' := Lib.hid hr'; have HS' := Lib.hid hs'; have HN' := Lib.hid hmm; have HG' := Lib.hid hG'
  have HB := Lib.hid hb12; have HKEEP := Lib.hid hkeep; have HSZ := Lib.hid hsz2
  have k1 := cell_of_heap (hkeep w2 (Below.refl _ _)).1 0
  clear hr hs hnn hG hsz htab hr' hs' hmm hG' hsz' hb1 hb2 hb12 hx1 hx2 hx12 y1 y2 y3 y4 hkeep hsz2
  have HEND := Lib.hid (show ∀ W, Below w2.heap.size w2 W → Below w.heap.size w W from fun W h => HB.out.trans (h.mono HB.out.size))
  have HENDB := Lib.hid (show ∀ W, Below w2.heap.size w2 W → Below Ba w W from fun W h => by have := HB.out.trans (h.mono HB.out.size); rw [hBa] at this; exact this)
  go_enter Tryd.func4, Tryd.ntmps4
  clear k1
  go_wp2_with fail
  refine (alive_any _ (HT.out.below HB.out)).mono ?_
  rintro e w3 ⟨rfl, h3⟩
  have H3 := Lib.hid h3
  have k1 := cell_of_heap (HKEEP.out w3 h3).1 0
  clear h3
  go_wp2_with fail
  refine (HG.out w3 (HB.out.trans (H3.out.mono HB.out.size))).mono ?_
  rintro e w4 ⟨b1, rfl, hsm, h4⟩
  have H4 := Lib.hid (H3.out.trans (h4.mono H3.out.size)); have HSM := Lib.hid hsm
  clear h4 hsm k1
  cases b1
  case true =>
    go_wp2_with fail
    go_ret
    first | exact ⟨rfl, HEND.out _ H4.out⟩ | exact ⟨rfl, HENDB.out _ H4.out⟩
  have k2 := cell_of_heap (HKEEP.out w4 H4.out).2 0
  go_wp2_with fail
  refine (HG'.out w4 (HB.out.trans (H4.out.mono HB.out.size))).mono ?_
  rintro e w5 ⟨b2, rfl, hsm, h5⟩
  have H5 := Lib.hid (H4.out.trans (h5.mono H4.out.size)); have HSM' := Lib.hid hsm
  clear h5 hsm k2
  cases b2
  case true =>
    go_wp2_with fail
    go_ret
    first | exact ⟨rfl, HEND.out _ H5.out⟩ | exact ⟨rfl, HENDB.out _ H5.out⟩
  by_cases hP1 : 1024 < P.size
  · go_wp2_with fail
    go_ret
    first | exact ⟨rfl, HEND.out _ H5.out⟩ | exact ⟨rfl, HENDB.out _ H5.out⟩
  by_cases hQ1 : 1024 < Q.size
  · go_wp2_with fail
    go_ret
    first | exact ⟨rfl, HEND.out _ H5.out⟩ | exact ⟨rfl, HENDB.out _ H5.out⟩
  have hU := fun W => under_any P Q W (by omega) (by omega)
  have hV := fun W => under_any Q P W (by omega) (by omega)
  cases hu : underP P.data.toList Q.data.toList with
  | mk u1 u2 =>
  cases hv : underP Q.data.toList P.data.toList with
  | mk v1 v2 =>
  rw [hu] at hU
  rw [hv] at hV
  dsimp only at hU hV
  unfold strV at hU hV
  have HU := Lib.hid hU; have HV := Lib.hid hV; have HUU := Lib.hid hu; have HVV := Lib.hid hv
  clear hU hV hu hv
  go_wp2_with fail
  refine (HU.out _).mono ?_
  rintro e w6 ⟨rfl, h6⟩
  have H6 := Lib.hid (H5.out.trans (h6.mono H5.out.size))
  clear h6
  go_wp2_with fail
  refine (HV.out _).mono ?_
  rintro e w7 ⟨rfl, h7⟩
  have H7 := Lib.hid (H6.out.trans (h7.mono H6.out.size))
  clear h7
  cases hpq : (P.toList == Q.toList)
  case true =>
    go_wp2_with fail
    go_ret
    first | exact ⟨rfl, HEND.out _ H7.out⟩ | exact ⟨rfl, HENDB.out _ H7.out⟩
  cases u2
  case true =>
    go_wp2_with fail
    go_ret
    first | exact ⟨rfl, HEND.out _ H7.out⟩ | exact ⟨rfl, HENDB.out _ H7.out⟩
  cases v2
  case true =>
    go_wp2_with fail
    go_ret
    first | exact ⟨rfl, HEND.out _ H7.out⟩ | exact ⟨rfl, HENDB.out _ H7.out⟩
  have hne : P.data.toList ≠ Q.data.toList := by
    have := str_eq_iff P Q
    rw [hpq] at this
    simpa using this.symm
  have huf : (underP P.data.toList Q.data.toList).2 = false := by rw [HUU.out]
  have hvf : (underP Q.data.toList P.data.toList).2 = false := by rw [HVV.out]
  have hn200 : n ≤ 200 := by rw [HN.out]; exact (HSM.out (by trivial)).len
  have hm200 : m ≤ 200 := by rw [HN'.out]; exact (HSM'.out (by trivial)).len
  have hea : ∀ p ∈ ps, p.1.length ≤ 400000 := fun p hp => by have := ((HSM.out (by trivial)).each p hp).1; omega
  have heb : ∀ p ∈ qs, p.1.length ≤ 400000 := fun p hp => by have := ((HSM'.out (by trivial)).each p hp).1; omega
  have hbw : ∀ W, Below w2.heap.size w2 W → Below w.heap.size w W := HEND.out
  have hM1 := fun W (h : Below w2.heap.size w2 W) => mount_any W none a 0 c [] ps P (RdFl.nil _ _) ⟨fun _ => ⟨rfl, rfl⟩⟩ (HR.out.below (hbw W h)) HS.out (by simp) (by rw [← HN.out]; omega) (fun p hp => by cases hp) hea (by omega)
  have hM2 := fun W (h : Below w2.heap.size w2 W) => mount_any W none b 0 d [] qs Q (RdFl.nil _ _) ⟨fun _ => ⟨rfl, rfl⟩⟩ (HR'.out.below (hbw W h)) HS'.out (by simp) (by rw [← HN'.out]; omega) (fun p hp => by cases hp) heb (by omega)
  have hM3 := fun W (h : Below w2.heap.size w2 W) (a6 : Option Addr) (c6 : Nat) (t : List Pr) (hr : RdFl W a6 t) (hs : Sl a6 t.length c6) (hg : goodT t = true) => mount_any W a6 b c6 d t qs Q hr hs (HR'.out.below (hbw W h)) HS'.out (by have := (good_len hg).1; omega) (by rw [← HN'.out]; omega) (fun p hp => by have := (good_len hg).2 p hp; omega) heb (by omega)
  have hM4 := fun W (h : Below w2.heap.size w2 W) (a6 : Option Addr) (c6 : Nat) (t : List Pr) (hr : RdFl W a6 t) (hs : Sl a6 t.length c6) (hg : goodT t = true) => mount_any W a6 a c6 c t ps P hr hs (HR.out.below (hbw W h)) HS.out (by have := (good_len hg).1; omega) (by rw [← HN.out]; omega) (fun p hp => by have := (good_len hg).2 p hp; omega) hea (by omega)
  cases h1 : mountT [] P.data.toList ps with
  | mk x t =>
  cases h2 : mountT [] Q.data.toList qs with
  | mk y u =>
  rw [h1, ← HN.out] at hM1
  rw [h2, ← HN'.out] at hM2
  rw [← HN'.out] at hM3
  rw [← HN.out] at hM4
  obtain ⟨nt, hnt⟩ : ∃ nt, nt = t.length := ⟨_, rfl⟩
  obtain ⟨nu, hnu⟩ : ∃ nu, nu = u.length := ⟨_, rfl⟩
  unfold MakeTo at hM1 hM2
  dsimp only [List.length_nil] at hM1 hM2
  rw [← hnt] at hM1
  rw [← hnu] at hM2
  have HM1 := Lib.hid hM1; have HM2 := Lib.hid hM2; have HM3 := Lib.hid hM3; have HM4 := Lib.hid hM4; have HNT := Lib.hid hnt; have HNU := Lib.hid hnu; have HE1 := Lib.hid h1; have HE2 := Lib.hid h2
  have HNE := Lib.hid (And.intro hne (And.intro huf hvf))
  clear hM1 hM2 hM3 hM4 hnt hnu h1 h2 hne huf hvf hea heb hbw
  have k1 := cell_of_heap (HKEEP.out w7 H7.out).1 0
  have k2 := cell_of_heap (HKEEP.out w7 H7.out).2 0
  go_wp2_with fail
  refine (HM1.out w7 H7.out).mono ?_
  rintro e w8 ⟨a8, c8, rfl, hrow8, h8⟩
  obtain ⟨w9, hw9, hb9, hx9, z1, z2⟩ := new_cell w8 (.slice a8 nt c8) 28
  have hb89 := h8.trans (hb9.mono h8.size)
  have H9 := Lib.hid (H7.out.trans (hb89.mono H7.out.size))
  have HX9 := Lib.hid hx9; have HR9 := Lib.hid (hrow8.below hb9)
  have k3 := cell_of_heap (HKEEP.out w9 H9.out).1 0
  have k4 := cell_of_heap (HKEEP.out w9 H9.out).2 0
  have HZ8 := Lib.hid (Nat.le_trans H7.out.size h8.size)
  clear h8 hb9 hx9 z1 z2 hrow8 hb89 k1 k2
  go_wp2_with fail
  refine (HM2.out w9 H9.out).mono ?_
  rintro e w10 ⟨a10, c10, rfl, hrow10, h10⟩
  obtain ⟨w11, hw11, hb11, hx11, z1, z2⟩ := new_cell w10 (.slice a10 nu c10) 28
  have hb911 := h10.trans (hb11.mono h10.size)
  have H11 := Lib.hid (H9.out.trans (hb911.mono H9.out.size))
  have HX11 := Lib.hid hx11; have HR11 := Lib.hid (hrow10.below hb11)
  have HX9' := Lib.hid ((hb911.block _ (lt_of_heap HX9.out)).trans HX9.out)
  have HR9' := Lib.hid (HR9.out.below hb911)
  have HZ10 := Lib.hid h10.size
  clear h10 hb11 hx11 z1 z2 hrow10 hb911 k3 k4
  by_cases hx : x = 0
  case neg =>
    have hxb : (x == 0) = false := beq_eq_false_iff_ne.2 hx
    go_wp2_with fail
    go_ret
    first | exact ⟨rfl, HEND.out _ H11.out⟩ | exact ⟨rfl, HENDB.out _ H11.out⟩
  by_cases hy : y = 0
  case neg =>
    have hyb : (y == 0) = false := beq_eq_false_iff_ne.2 hy
    subst hx
    go_wp2_with fail
    go_ret
    first | exact ⟨rfl, HEND.out _ H11.out⟩ | exact ⟨rfl, HENDB.out _ H11.out⟩
  subst hx
  subst hy
  obtain ⟨hsame, herr⟩ := mounts_same HE1.out HE2.out HNE.out.1 HNE.out.2.1 HNE.out.2.2
  have hgt : goodT t = true := mountT_good HE1.out
  have hgu : goodT u = true := mountT_good HE2.out
  have hgr : goodT (mountT t Q.data.toList qs).2 = true := by
    rw [mountT_of hgt (mountT_parts HE2.out).2.1 (mountT_parts HE2.out).2.2.1 (mountT_parts HE2.out).2.2.2.1]
    exact makeT_good2 _
  have hM3 := HM3.out w11 H11.out a8 c8 t HR9'.out.rd HR9'.out.sl hgt
  have hM4 := fun W h hr => HM4.out W h a10 c10 u hr HR11.out.sl hgu
  rw [← hsame] at hM4
  cases hr0 : mountT t Q.data.toList qs with
  | mk v r =>
  rw [hr0] at hM3 hM4 herr hgr
  dsimp only at herr hgr
  obtain ⟨nr, hnr⟩ : ∃ nr, nr = r.length := ⟨_, rfl⟩
  unfold MakeTo at hM3 hM4
  dsimp only at hM3 hM4
  rw [← HNT.out, ← hnr] at hM3
  rw [← HNU.out, ← hnr] at hM4
  have hvb : (v == 0) = true ∨ ((v == 0) = false ∧ (v == 13) = true) := by
    rcases herr with h | h
    · left; rw [h]; rfl
    · right; rw [h]; exact ⟨rfl, rfl⟩
  have HV3 := Lib.hid hM3; have HV4 := Lib.hid hM4; have HNR := Lib.hid hnr; have HGR := Lib.hid hgr; have HVB := Lib.hid hvb
  clear hM3 hM4 hnr hsame herr hgt hgu hgr hr0 hvb
  have k5 := cell_of_heap HX9'.out 0
  have k6 := cell_of_heap (HKEEP.out w11 H11.out).2 0
  go_wp2_with fail
  refine HV3.out.mono ?_
  rintro e w12 ⟨a12, c12, rfl, hrow12, h12⟩
  have hx12 := (h12.block _ (lt_of_heap HX9'.out)).trans HX9'.out
  have hs8 : w8.heap.size < w9.heap.size := by rw [← hw9]; simp
  have hs10 : w10.heap.size < w11.heap.size := by rw [← hw11]; simp
  have hs28 : w2.heap.size ≤ w8.heap.size ∧ w9.heap.size ≤ w10.heap.size ∧ w11.heap.size ≤ w12.heap.size := ⟨HZ8.out, HZ10.out, h12.size⟩
  have hH12 := H11.out.trans (h12.mono H11.out.size)
  have hy12 := (h12.block _ (lt_of_heap HX11.out)).trans HX11.out
  obtain ⟨W13, hW13⟩ : ∃ W, W = w12.setCell ⟨w8.heap.size, 0, none⟩ (.slice a12 nr c12) := ⟨_, rfl⟩
  have hH13 : Below w2.heap.size w2 W13 := by rw [hW13]; exact hH12.setCell (p := ⟨w8.heap.size, 0, none⟩) hs28.1 _
  have hset : ∀ g, g ≠ w8.heap.size → W13.heap[g]? = w12.heap[g]? := fun g hg => by rw [hW13]; exact Below.heap_setCell _ _ _ _ (by simpa using hg)
  have hz13 : W13.heap.size = w12.heap.size := by rw [hW13]; simp [World.setCell]
  have hy13 := (hset w10.heap.size (by omega)).trans hy12
  have hx13 : W13.heap[w8.heap.size]? = some (.cells #[.slice a12 nr c12] 28 (0, 0)) := by rw [hW13]; exact heap_setCell_here (i := 0) _ hx12
  have hru : RowAt W13 w9.heap.size a10 c10 u := (HR11.out.below h12).keep (fun g hg _ => hset g (by omega))
  have hrr : RowAt W13 w11.heap.size a12 c12 r := hrow12.keep (fun g hg _ => hset g (by omega))
  have k7 := cell_of_heap hx12 0
  have k8 := frozen_of_heap hx12
  have k9 := cell_of_heap hy13 0
  have k10 := cell_of_heap (HKEEP.out W13 hH13).1 0
  have HY13 := Lib.hid hy13; have HX13 := Lib.hid hx13; have HRU := Lib.hid hru; have HRR := Lib.hid hrr; have H13 := Lib.hid hH13
  have HSS := Lib.hid (And.intro hs8 (And.intro hs10 (And.intro hs28 hz13)))
  clear hs8 hs10 hs28 hz13 hset hy13 hx13 hru hrr hH13 hH12 hx12 hy12 hrow12 h12 k5 k6
  rw [hW13] at k9 k10
  go_wp2_with fail
  rw [← hW13]
  refine (HV4.out W13 H13.out HRU.out.rd).mono ?_
  rintro e w14 ⟨a14, c14, rfl, hrow14, h14⟩
  have hy14 := (h14.block _ (lt_of_heap HY13.out)).trans HY13.out
  have hx14 := (h14.block _ (lt_of_heap HX13.out)).trans HX13.out
  obtain ⟨hs8, hs10, hs28, hz13⟩ := HSS.out
  obtain ⟨W15, hW15⟩ : ∃ W, W = w14.setCell ⟨w10.heap.size, 0, none⟩ (.slice a14 nr c14) := ⟨_, rfl⟩
  have hset : ∀ g, g ≠ w10.heap.size → W15.heap[g]? = w14.heap[g]? := fun g hg => by rw [hW15]; exact Below.heap_setCell _ _ _ _ (by simpa using hg)
  have hH15 : Below w2.heap.size w2 W15 := by rw [hW15]; exact (H13.out.trans (h14.mono H13.out.size)).setCell (p := ⟨w10.heap.size, 0, none⟩) (by simp; omega) _
  have hy15 : W15.heap[w10.heap.size]? = some (.cells #[.slice a14 nr c14] 28 (0, 0)) := by rw [hW15]; exact heap_setCell_here (i := 0) _ hy14
  have hx15 := (hset w8.heap.size (by omega)).trans hx14
  have hr14 : RowAt W15 W13.heap.size a14 c14 r := hrow14.keep (fun g hg _ => hset g (by omega))
  have hr12 : RowAt W15 w11.heap.size a12 c12 r := (HRR.out.below h14).keep (fun g hg _ => hset g (by omega))
  have hsm := same_any W15 a12 a14 c12 c14 r r hr12.rd hr14.rd (by have := (good_len HGR.out).1; omega) (by have := (good_len HGR.out).1; omega)
  rw [decide_eq_true rfl, ← HNR.out] at hsm
  have k11 := cell_of_heap hy14 0
  have k12 := frozen_of_heap hy14
  have k13 := cell_of_heap hy15 0
  have k14 := cell_of_heap hx15 0
  have HSA := Lib.hid hsm; have H15 := Lib.hid hH15
  clear hs8 hs10 hs28 hz13 hset hH15 hy15 hx15 hr14 hr12 hsm hy14 hx14 hrow14 h14 k7 k8 k9 k10
  rw [hW15] at k13 k14
  rcases HVB.out with hv0 | ⟨hv0, hv1⟩
  all_goals
    go_wp2_with fail
    rw [← hW15]
    refine HSA.out.mono ?_
    rintro e w16 ⟨rfl, h16⟩
    have H16 := Lib.hid (H15.out.trans (h16.mono H15.out.size))
    clear h16
    go_wp2_with fail
    go_ret
    first | exact ⟨rfl, HEND.out _ H16.out⟩ | exact ⟨rfl, HENDB.out _ H16.out⟩
end Go.Proofs.YtjcimajkjnjdpaaDoor
