/- DERIVED. The law TreeDoes, walked. (Printed by doesgen.py.) -/
import Derived.Test.YtjcimajkjnjdpaaGreatDoorTreeAlive
import Derived.Test.YtjcimajkjnjdpaaGreatDoorTreeGreat
import Derived.Test.YtjcimajkjnjdpaaGreatDoorTreeDrop
import Derived.Test.YtjcimajkjnjdpaaGreatDoorTreeDoesLaw
import Derived.Test.YtjcimajkjnjdpaaGreatDoorTreeArgT
import Derived.Test.YtjcimajkjnjdpaaGreatDoorTreeTab
namespace Go.Proofs.YtjcimajkjnjdpaaGreatDoor
open Go.RowKit
set_option linter.unusedVariables false
set_option maxRecDepth 100000

section
open Go.Shelf Go.ChangeShapes Go.WideShapes
theorem fileV {H : Type} {enc : TypeId × Value → H} {w : World} {fuel base : Nat} {r : Reach} {v : Value} (o : Value.okWide Tryz.prog w r base 41 v) (h : Arg enc Tryz.prog w fuel 41 v.cells.toList) :
    ∃ p : Pr, v = .agg #[strV p.1, strV p.2] ∧ p.1.length ≤ 140737488351232 ∧ p.2.length ≤ 140737488351232 := by
  obtain ⟨cs, rfl, hs⟩ := okWide_struct Tryz.underlying41 o
  rw [show Tryz.prog.cellsOf 41 = 2 from by kernel_rfl] at hs
  obtain ⟨cs⟩ := cs
  have hs : cs.length = 2 := by simpa using hs
  obtain ⟨x, y, rfl⟩ : ∃ x y, cs = [x, y] := by
    match cs, hs with
    | [x, y], _ => exact ⟨x, y, rfl⟩
  obtain ⟨p, rfl, rfl, h1, h2⟩ := file_of_arg (u := x) (v := y) h
  exact ⟨p, rfl, h1, h2⟩
end
theorem rdFl_one {w : World} {b : Nat} {p : Pr} (h : w.heap[b]? = some (.cells #[strV p.1, strV p.2] 41 (0, 0))) : RdFl w (some ⟨b, 0, none⟩) [p] := fun _ =>
  ⟨b, 0, rfl, lt_of_heap h, fun i x hi => by
    match i, hi with
    | 0, hi =>
      obtain rfl := Option.some.inj hi
      exact ⟨cell_of_heap h 0, cell_of_heap h 1⟩
    | i + 1, hi => cases hi⟩
set_option maxHeartbeats 16000000 in
theorem does_law (w : World) (a b : Option Addr) (c d : Nat) (ps qs : List Pr) (f : Pr) (hr : RdFl w a ps) (hs : Sl a ps.length c) (hsz : Sz ps) (hr' : RdFl w b qs) (hs' : Sl b qs.length d) (hsz' : Sz qs)
    (hf1 : f.1.length ≤ 140737488351232) (hf2 : f.2.length ≤ 140737488351232) (htab : Tab w) :
    Calls Tryz.prog 6 #[.agg #[.slice a ps.length c], .agg #[.slice b qs.length d], .agg #[strV f.1, strV f.2]] w (fun e w' => e = .returned (.bool true) ∧ Below w.heap.size w w') := by
  obtain ⟨n, hnn⟩ : ∃ n, n = ps.length := ⟨_, rfl⟩
  obtain ⟨m, hmm⟩ : ∃ m, m = qs.length := ⟨_, rfl⟩
  have hG := fun W (h : Below w.heap.size w W) => great_any W a c ps (hr.below h) hsz
  have hG' := fun W (h : Below w.heap.size w W) => great_any W b d qs (hr'.below h) hsz'
  have hnl : n ≤ 4398046511104 := by rw [hnn]; exact hsz.len
  have hml : m ≤ 4398046511104 := by rw [hmm]; exact hsz'.len
  rw [← hnn] at hG ⊢
  rw [← hmm] at hG' ⊢
  have hsf : Sz [f] := ⟨fun p hp => by obtain rfl := List.mem_singleton.1 hp; exact ⟨hf1, hf2⟩, by simp⟩
  obtain ⟨S1, hS1⟩ : ∃ S : ByteArray, S = ⟨f.1.toArray⟩ := ⟨_, rfl⟩
  obtain ⟨S2, hS2⟩ : ∃ S : ByteArray, S = ⟨f.2.toArray⟩ := ⟨_, rfl⟩
  have hsv : strV f.1 = .string S1 ∧ strV f.2 = .string S2 := ⟨by rw [hS1]; rfl, by rw [hS2]; rfl⟩
  rw [hsv.1, hsv.2]
  obtain ⟨w1, hw1, hb1, hx1, y1, y2⟩ := new_cell w (.slice a n c) 26
  obtain ⟨w2, hw2, hb2, hx2, y3, y4⟩ := new_cell w1 (.slice b m d) 26
  obtain ⟨w3, hw3, hb3, hx3, y5, y6⟩ := new_two w2 (.string S1) (.string S2) 41
  obtain ⟨Ba, hBa⟩ : ∃ b, w.heap.size = b := ⟨_, rfl⟩
  obtain ⟨Bb, hBb⟩ : ∃ b, w1.heap.size = b := ⟨_, rfl⟩
  obtain ⟨Bf, hBf⟩ : ∃ b, w2.heap.size = b := ⟨_, rfl⟩
  have hb23 := hb2.trans (hb3.mono hb2.size)
  have hb13 := hb1.trans (hb23.mono hb1.size)
  have hx13 := (hb23.block _ (by omega)).trans hx1
  have hx23 := (hb3.block _ (by omega)).trans hx2
  rw [hBa] at hx13; rw [hBb] at hx23; rw [hBf] at hx3
  have hkeep : ∀ W, Below w3.heap.size w3 W → W.heap[Ba]? = some (.cells #[.slice a n c] 26 (0, 0)) ∧ W.heap[Bb]? = some (.cells #[.slice b m d] 26 (0, 0)) ∧ W.heap[Bf]? = some (.cells #[.string S1, .string S2] 41 (0, 0)) := fun W h =>
    ⟨(h.block _ (by omega)).trans hx13, (h.block _ (by omega)).trans hx23, (h.block _ (by omega)).trans hx3⟩
  have HR := Lib.hid hr; have HS := Lib.hid hs; have HN := Lib.hid hnn; have HG := Lib.hid hG; have HT := Lib.hid htab
  have HR' := Lib.hid hr'; have HS' := Lib.hid hs'; have HN' := Lib.hid hmm; have HG' := Lib.hid hG'
  have HB := Lib.hid hb13; have HKEEP := Lib.hid hkeep; have HSF := Lib.hid hsf; have HSV := Lib.hid hsv; have HS1 := Lib.hid hS1
  have k1 := cell_of_heap (hkeep w3 (Below.refl _ _)).1 0
  clear hr hs hnn hG hsz htab hr' hs' hmm hG' hsz' hb1 hb2 hb3 hb23 hb13 hx1 hx2 hx3 hx13 hx23 y1 y2 y3 y4 y5 y6 hkeep hsf hsv hS1 hS2 hf1 hf2
  have HEND := Lib.hid (show ∀ W, Below w3.heap.size w3 W → Below w.heap.size w W from fun W h => HB.out.trans (h.mono HB.out.size))
  have HENDB := Lib.hid (show ∀ W, Below w3.heap.size w3 W → Below Ba w W from fun W h => by have := HB.out.trans (h.mono HB.out.size); rw [hBa] at this; exact this)
  go_enter Tryz.func6, Tryz.ntmps6
  clear k1
  go_wp2_with fail
  refine (alive_any _ (HT.out.below HB.out)).mono ?_
  rintro e w4 ⟨rfl, h4⟩
  have H4 := Lib.hid h4
  have k1 := cell_of_heap (HKEEP.out w4 h4).1 0
  clear h4
  go_wp2_with fail
  refine (HG.out w4 (HEND.out _ H4.out)).mono ?_
  rintro e w5 ⟨b1, rfl, hsm, h5⟩
  have H5 := Lib.hid (H4.out.trans (h5.mono H4.out.size)); have HSM := Lib.hid hsm
  clear h5 hsm k1
  cases b1
  case true =>
    go_wp2_with fail
    go_ret
    first | exact ⟨rfl, HEND.out _ H5.out⟩ | exact ⟨rfl, HENDB.out _ H5.out⟩
  have k2 := cell_of_heap (HKEEP.out w5 H5.out).2.1 0
  go_wp2_with fail
  refine (HG'.out w5 (HEND.out _ H5.out)).mono ?_
  rintro e w6 ⟨b2, rfl, hsm, h6⟩
  have H6 := Lib.hid (H5.out.trans (h6.mono H5.out.size)); have HSM' := Lib.hid hsm
  clear h6 hsm k2
  cases b2
  case true =>
    go_wp2_with fail
    go_ret
    first | exact ⟨rfl, HEND.out _ H6.out⟩ | exact ⟨rfl, HENDB.out _ H6.out⟩
  have k3 := cell_of_heap (HKEEP.out w6 H6.out).2.2 0
  have k4 := cell_of_heap (HKEEP.out w6 H6.out).2.2 1
  obtain ⟨w7, hw7, hb7, hx7, _, _⟩ := new_two w6 (.string S1) (.string S2) 41
  have hx7' := hx7
  rw [← HSV.out.1, ← HSV.out.2] at hx7'
  have HGF := Lib.hid (great_any w7 (some ⟨w6.heap.size, 0, none⟩) 1 [f] (rdFl_one hx7') HSF.out)
  have H7 := Lib.hid (H6.out.trans (hb7.mono H6.out.size))
  clear hb7 hx7 hx7'
  go_wp2_with fail
  refine HGF.out.mono ?_
  rintro e w8 ⟨b3, rfl, hsm, h8⟩
  have H8 := Lib.hid (H7.out.trans (h8.mono H7.out.size)); have HSMF := Lib.hid hsm
  clear h8 hsm k3 k4
  cases b3
  case true =>
    go_wp2_with fail
    go_ret
    first | exact ⟨rfl, HEND.out _ H8.out⟩ | exact ⟨rfl, HENDB.out _ H8.out⟩
  have hn200 : n ≤ 200 := by rw [HN.out]; exact (HSM.out (by trivial)).len
  have hm200 : m ≤ 200 := by rw [HN'.out]; exact (HSM'.out (by trivial)).len
  have hea : ∀ p ∈ ps, p.1.length ≤ 400000 := fun p hp => by have := ((HSM.out (by trivial)).each p hp).1; omega
  have heb : ∀ p ∈ qs, p.1.length ≤ 400000 := fun p hp => by have := ((HSM'.out (by trivial)).each p hp).1; omega
  have hfl : f.1.length ≤ 400000 := by have := ((HSMF.out (by trivial)).each f (by simp)).1; omega
  have hS1s : S1.size ≤ 400000 := by rw [HS1.out, str_size]; exact hfl
  have hrl : ∀ W, Below w3.heap.size w3 W → RdFl W a ps ∧ RdFl W b qs := fun W h => ⟨HR.out.below (HEND.out _ h), HR'.out.below (HEND.out _ h)⟩
  have hA0 := fun W (h : Below w3.heap.size w3 W) => put_tree W a c ps f (hrl W h).1 HS.out (by rw [← HN.out]; omega) hea hfl
  have hB0 := fun W (h : Below w3.heap.size w3 W) => rput_any W a c ps f (hrl W h).1 HS.out (by rw [← HN.out]; omega) hea hfl
  have hL0 : (putT2 ps f).2.length ≤ 1000000 := by have := put_le ps f; rw [← HN.out] at this; omega
  cases hx0 : putT2 ps f with
  | mk x0 r0 =>
  rw [hx0] at hA0 hB0 hL0
  obtain ⟨n0, hn0⟩ : ∃ k, k = r0.length := ⟨_, rfl⟩
  unfold MakeTo at hA0 hB0
  dsimp only at hA0 hB0 hL0
  rw [← hn0] at hA0 hB0
  rw [← HN.out] at hA0 hB0
  rw [HSV.out.1, HSV.out.2] at hA0 hB0
  have HA0 := Lib.hid hA0; have HB0 := Lib.hid hB0; have HL0 := Lib.hid hL0; have HQ0 := Lib.hid hn0
  clear hA0 hB0 hL0 hx0 hn0
  have hxx0 : (x0 != x0) = false := by simp
  have hyy0 : (x0 == x0) = true := by simp
  have hA1 := fun W (h : Below w3.heap.size w3 W) => drop_tree W a c ps S1 (hrl W h).1 HS.out (by rw [← HN.out]; omega) hea hS1s
  have hB1 := fun W (h : Below w3.heap.size w3 W) => rdrop_any W a c ps S1 (hrl W h).1 (by rw [← HN.out]; omega) hea hS1s
  have hL1 : (dropT ps S1.data.toList).2.length ≤ 1000000 := by have := drop_le ps S1.data.toList; rw [← HN.out] at this; omega
  cases hx1 : dropT ps S1.data.toList with
  | mk x1 r1 =>
  rw [hx1] at hA1 hB1 hL1
  obtain ⟨n1, hn1⟩ : ∃ k, k = r1.length := ⟨_, rfl⟩
  unfold MakeTo at hA1 hB1
  dsimp only at hA1 hB1 hL1
  rw [← hn1] at hA1 hB1
  rw [← HN.out] at hA1 hB1
  have HA1 := Lib.hid hA1; have HB1 := Lib.hid hB1; have HL1 := Lib.hid hL1; have HQ1 := Lib.hid hn1
  clear hA1 hB1 hL1 hx1 hn1
  have hxx1 : (x1 != x1) = false := by simp
  have hyy1 : (x1 == x1) = true := by simp
  have hA2 := fun W (h : Below w3.heap.size w3 W) => cut_tree W a c ps S1 (hrl W h).1 HS.out (by rw [← HN.out]; omega) hea hS1s
  have hB2 := fun W (h : Below w3.heap.size w3 W) => rcut_any W a c ps S1 (hrl W h).1 (by rw [← HN.out]; omega) hea hS1s
  have hL2 : (rcutT ps S1.data.toList).2.length ≤ 1000000 := by have := rcut_le ps S1.data.toList; rw [← HN.out] at this; omega
  rw [cut_same] at hA2
  cases hx2 : rcutT ps S1.data.toList with
  | mk x2 r2 =>
  rw [hx2] at hA2 hB2 hL2
  obtain ⟨n2, hn2⟩ : ∃ k, k = r2.length := ⟨_, rfl⟩
  unfold MakeTo at hA2 hB2
  dsimp only at hA2 hB2 hL2
  rw [← hn2] at hA2 hB2
  rw [← HN.out] at hA2 hB2
  have HA2 := Lib.hid hA2; have HB2 := Lib.hid hB2; have HL2 := Lib.hid hL2; have HQ2 := Lib.hid hn2
  clear hA2 hB2 hL2 hx2 hn2
  have hxx2 : (x2 != x2) = false := by simp
  have hyy2 : (x2 == x2) = true := by simp
  have hA3 := fun W (h : Below w3.heap.size w3 W) => mount_any W a b c d ps qs S1 (hrl W h).1 HS.out (hrl W h).2 HS'.out (by rw [← HN.out]; omega) (by rw [← HN'.out]; omega) hea heb hS1s
  have hB3 := fun W (h : Below w3.heap.size w3 W) => rmount_any W a b c d ps qs S1 (hrl W h).1 HS.out (hrl W h).2 HS'.out (by rw [← HN.out]; omega) (by rw [← HN'.out]; omega) hea heb hS1s
  have hL3 : (mountT ps S1.data.toList qs).2.length ≤ 1000000 := by have := mount_le ps S1.data.toList qs; rw [← HN.out, ← HN'.out] at this; omega
  cases hx3 : mountT ps S1.data.toList qs with
  | mk x3 r3 =>
  rw [hx3] at hA3 hB3 hL3
  obtain ⟨n3, hn3⟩ : ∃ k, k = r3.length := ⟨_, rfl⟩
  unfold MakeTo at hA3 hB3
  dsimp only at hA3 hB3 hL3
  rw [← hn3] at hA3 hB3
  rw [← HN.out, ← HN'.out] at hA3 hB3
  have HA3 := Lib.hid hA3; have HB3 := Lib.hid hB3; have HL3 := Lib.hid hL3; have HQ3 := Lib.hid hn3
  clear hA3 hB3 hL3 hx3 hn3
  have hxx3 : (x3 != x3) = false := by simp
  have hyy3 : (x3 == x3) = true := by simp
  clear hea heb hfl hS1s hrl
  have k1 := cell_of_heap (HKEEP.out w8 H8.out).1 0
  have k2 := cell_of_heap (HKEEP.out w8 H8.out).2.1 0
  have k3 := cell_of_heap (HKEEP.out w8 H8.out).2.2 0
  have k4 := cell_of_heap (HKEEP.out w8 H8.out).2.2 1
  go_wp2_with fail
  refine (HA0.out w8 H8.out).mono ?_
  rintro e w9 ⟨a9, c9, rfl, hrow9, h9⟩
  obtain ⟨w10, hw10, hb10, hx10, z1, z2⟩ := new_cell w9 (.slice a9 n0 c9) 26
  have hb90 := h9.trans (hb10.mono h9.size)
  have H10 := Lib.hid (H8.out.trans (hb90.mono H8.out.size))
  have HX10 := Lib.hid hx10; have HR9 := Lib.hid (hrow9.below hb10)
  have HZ9 := Lib.hid (Nat.le_trans H8.out.size h9.size)
  have HZ10 := Lib.hid (And.intro z1 z2)
  clear k1 k2 k3 k4 h9 hrow9 hb10 hx10 z1 z2 hb90
  have k1 := cell_of_heap (HKEEP.out w10 H10.out).1 0
  have k2 := cell_of_heap (HKEEP.out w10 H10.out).2.1 0
  have k3 := cell_of_heap (HKEEP.out w10 H10.out).2.2 0
  have k4 := cell_of_heap (HKEEP.out w10 H10.out).2.2 1
  go_wp2_with fail
  refine (HB0.out w10 H10.out).mono ?_
  rintro e w11 ⟨a11, c11, rfl, hrow11, h11⟩
  obtain ⟨w12, hw12, hb12, hx12, z1, z2⟩ := new_cell w11 (.slice a11 n0 c11) 26
  have hb02 := h11.trans (hb12.mono h11.size)
  have H12 := Lib.hid (H10.out.trans (hb02.mono H10.out.size))
  have hx10' := (hb02.block _ (lt_of_heap HX10.out)).trans HX10.out
  have hsm := same_any w12 a9 a11 c9 c11 r0 r0 (HR9.out.below hb02).rd (hrow11.below hb12).rd HL0.out HL0.out
  rw [decide_eq_true rfl, ← HQ0.out] at hsm
  have HSA := Lib.hid hsm
  have q7 := cell_of_heap hx10' 0
  have q9 := cell_of_heap hx12 0
  have HX7 := Lib.hid hx10'; have HX9 := Lib.hid hx12
  have HBN := Lib.hid (show w3.heap.size ≤ w9.heap.size ∧ w9.heap.size < w11.heap.size by have := HZ9.out; have := HZ10.out; have := h11.size; omega)
  clear k1 k2 k3 k4 hrow11 h11 hb12 hx12 z1 z2 hb02 hx10' hsm
  go_wp2_with fail
  refine HSA.out.mono ?_
  rintro e V0 ⟨rfl, h13⟩
  have HV0 := Lib.hid (H12.out.trans (h13.mono H12.out.size))
  have HP0 := Lib.hid ((h13.block _ (lt_of_heap HX7.out)).trans HX7.out)
  have HR0 := Lib.hid ((h13.block _ (lt_of_heap HX9.out)).trans HX9.out)
  clear h13 q7 q9
  have k1 := cell_of_heap (HKEEP.out V0 HV0.out).1 0
  have k2 := cell_of_heap (HKEEP.out V0 HV0.out).2.1 0
  have k3 := cell_of_heap (HKEEP.out V0 HV0.out).2.2 0
  have k4 := cell_of_heap (HKEEP.out V0 HV0.out).2.2 1
  go_wp2_with fail
  refine (HA1.out V0 HV0.out).mono ?_
  rintro e u1 ⟨d1, e1, rfl, hrow, h9⟩
  have HU1 := Lib.hid (HV0.out.trans (h9.mono HV0.out.size))
  have hp := (h9.block _ (lt_of_heap HP0.out)).trans HP0.out
  have hq := (h9.block _ (lt_of_heap HR0.out)).trans HR0.out
  obtain ⟨v1, hv1⟩ : ∃ W, W = u1.setCell ⟨w9.heap.size, 0, none⟩ (.slice d1 n1 e1) := ⟨_, rfl⟩
  have hHv : Below w3.heap.size w3 v1 := by rw [hv1]; exact HU1.out.setCell (p := ⟨w9.heap.size, 0, none⟩) HBN.out.1 _
  have hset : ∀ g, g ≠ w9.heap.size → v1.heap[g]? = u1.heap[g]? := fun g hg => by rw [hv1]; exact Below.heap_setCell _ _ _ _ (by simpa using hg)
  have hpv : v1.heap[w9.heap.size]? = some (.cells #[.slice d1 n1 e1] 26 (0, 0)) := by rw [hv1]; exact heap_setCell_here (i := 0) _ hp
  have hqv := (hset w11.heap.size (by have := HBN.out; omega)).trans hq
  have hlp := lt_of_heap HP0.out
  have hlq := lt_of_heap HR0.out
  have hrw : RowAt v1 V0.heap.size d1 e1 r1 := hrow.keep (fun g hg _ => hset g (by omega))
  have q7 := cell_of_heap hp 0
  have qf := frozen_of_heap hp
  have HW1 := Lib.hid hHv; have HPV1 := Lib.hid hpv; have HQV1 := Lib.hid hqv; have HRW1 := Lib.hid hrw; have HVV := Lib.hid hv1
  have HLP1 := Lib.hid (Nat.lt_of_lt_of_le hlp h9.size); have HLQ1 := Lib.hid (Nat.lt_of_lt_of_le hlq h9.size)
  have HSZV := Lib.hid (show v1.heap.size = u1.heap.size by rw [hv1]; simp [World.setCell])
  clear k1 k2 k3 k4 h9 hrow hp hq hHv hset hpv hqv hlp hlq hrw hv1
  have k1 := cell_of_heap (HKEEP.out v1 HW1.out).1 0
  have k2 := cell_of_heap (HKEEP.out v1 HW1.out).2.1 0
  have k3 := cell_of_heap (HKEEP.out v1 HW1.out).2.2 0
  have k4 := cell_of_heap (HKEEP.out v1 HW1.out).2.2 1
  rw [HVV.out] at k1 k2 k3 k4
  go_wp2_with fail
  rw [← HVV.out]
  refine (HB1.out v1 HW1.out).mono ?_
  rintro e y1 ⟨g1, t1, rfl, hrow, h9⟩
  have hp := (h9.block _ (lt_of_heap HPV1.out)).trans HPV1.out
  have hq := (h9.block _ (lt_of_heap HQV1.out)).trans HQV1.out
  obtain ⟨z1, hz1⟩ : ∃ W, W = y1.setCell ⟨w11.heap.size, 0, none⟩ (.slice g1 n1 t1) := ⟨_, rfl⟩
  have hHz : Below w3.heap.size w3 z1 := by rw [hz1]; exact (HW1.out.trans (h9.mono HW1.out.size)).setCell (p := ⟨w11.heap.size, 0, none⟩) (by have := HBN.out; simp; omega) _
  have hset : ∀ g, g ≠ w11.heap.size → z1.heap[g]? = y1.heap[g]? := fun g hg => by rw [hz1]; exact Below.heap_setCell _ _ _ _ (by simpa using hg)
  have hqz : z1.heap[w11.heap.size]? = some (.cells #[.slice g1 n1 t1] 26 (0, 0)) := by rw [hz1]; exact heap_setCell_here (i := 0) _ hq
  have hpz := (hset w9.heap.size (by have := HBN.out; omega)).trans hp
  have hr1 : RowAt z1 V0.heap.size d1 e1 r1 := (HRW1.out.below h9).keep (fun g hg _ => hset g (by have := lt_of_heap HR0.out; omega))
  have hr2 : RowAt z1 v1.heap.size g1 t1 r1 := hrow.keep (fun g hg _ => hset g (by have := lt_of_heap HQV1.out; omega))
  have hsm := same_any z1 d1 g1 e1 t1 r1 r1 hr1.rd hr2.rd HL1.out HL1.out
  rw [decide_eq_true rfl, ← HQ1.out] at hsm
  have HSA := Lib.hid hsm
  have m1 := cell_of_heap hq 0
  have m2 := frozen_of_heap hq
  have m3 := cell_of_heap hqz 0
  have m4 := cell_of_heap hpz 0
  have HZ := Lib.hid hz1; have HHZ := Lib.hid hHz; have HPZ := Lib.hid hpz; have HQZ := Lib.hid hqz
  rw [hz1] at m3 m4
  clear k1 k2 k3 k4 h9 hrow hp hq hHz hset hqz hpz hr1 hr2 hsm hz1 q7 qf
  go_wp2_with fail
  rw [← HZ.out]
  refine HSA.out.mono ?_
  rintro e V1 ⟨rfl, h13⟩
  have HV1 := Lib.hid (HHZ.out.trans (h13.mono HHZ.out.size))
  have HP1 := Lib.hid ((h13.block _ (lt_of_heap HPZ.out)).trans HPZ.out)
  have HR1 := Lib.hid ((h13.block _ (lt_of_heap HQZ.out)).trans HQZ.out)
  clear h13 m1 m2 m3 m4
  have k1 := cell_of_heap (HKEEP.out V1 HV1.out).1 0
  have k2 := cell_of_heap (HKEEP.out V1 HV1.out).2.1 0
  have k3 := cell_of_heap (HKEEP.out V1 HV1.out).2.2 0
  have k4 := cell_of_heap (HKEEP.out V1 HV1.out).2.2 1
  go_wp2_with fail
  refine (HA2.out V1 HV1.out).mono ?_
  rintro e u2 ⟨d2, e2, rfl, hrow, h9⟩
  have HU2 := Lib.hid (HV1.out.trans (h9.mono HV1.out.size))
  have hp := (h9.block _ (lt_of_heap HP1.out)).trans HP1.out
  have hq := (h9.block _ (lt_of_heap HR1.out)).trans HR1.out
  obtain ⟨v2, hv2⟩ : ∃ W, W = u2.setCell ⟨w9.heap.size, 0, none⟩ (.slice d2 n2 e2) := ⟨_, rfl⟩
  have hHv : Below w3.heap.size w3 v2 := by rw [hv2]; exact HU2.out.setCell (p := ⟨w9.heap.size, 0, none⟩) HBN.out.1 _
  have hset : ∀ g, g ≠ w9.heap.size → v2.heap[g]? = u2.heap[g]? := fun g hg => by rw [hv2]; exact Below.heap_setCell _ _ _ _ (by simpa using hg)
  have hpv : v2.heap[w9.heap.size]? = some (.cells #[.slice d2 n2 e2] 26 (0, 0)) := by rw [hv2]; exact heap_setCell_here (i := 0) _ hp
  have hqv := (hset w11.heap.size (by have := HBN.out; omega)).trans hq
  have hlp := lt_of_heap HP1.out
  have hlq := lt_of_heap HR1.out
  have hrw : RowAt v2 V1.heap.size d2 e2 r2 := hrow.keep (fun g hg _ => hset g (by omega))
  have q7 := cell_of_heap hp 0
  have qf := frozen_of_heap hp
  have HW2 := Lib.hid hHv; have HPV2 := Lib.hid hpv; have HQV2 := Lib.hid hqv; have HRW2 := Lib.hid hrw; have HVV := Lib.hid hv2
  have HLP2 := Lib.hid (Nat.lt_of_lt_of_le hlp h9.size); have HLQ2 := Lib.hid (Nat.lt_of_lt_of_le hlq h9.size)
  have HSZV := Lib.hid (show v2.heap.size = u2.heap.size by rw [hv2]; simp [World.setCell])
  clear k1 k2 k3 k4 h9 hrow hp hq hHv hset hpv hqv hlp hlq hrw hv2
  have k1 := cell_of_heap (HKEEP.out v2 HW2.out).1 0
  have k2 := cell_of_heap (HKEEP.out v2 HW2.out).2.1 0
  have k3 := cell_of_heap (HKEEP.out v2 HW2.out).2.2 0
  have k4 := cell_of_heap (HKEEP.out v2 HW2.out).2.2 1
  rw [HVV.out] at k1 k2 k3 k4
  go_wp2_with fail
  rw [← HVV.out]
  refine (HB2.out v2 HW2.out).mono ?_
  rintro e y2 ⟨g2, t2, rfl, hrow, h9⟩
  have hp := (h9.block _ (lt_of_heap HPV2.out)).trans HPV2.out
  have hq := (h9.block _ (lt_of_heap HQV2.out)).trans HQV2.out
  obtain ⟨z2, hz2⟩ : ∃ W, W = y2.setCell ⟨w11.heap.size, 0, none⟩ (.slice g2 n2 t2) := ⟨_, rfl⟩
  have hHz : Below w3.heap.size w3 z2 := by rw [hz2]; exact (HW2.out.trans (h9.mono HW2.out.size)).setCell (p := ⟨w11.heap.size, 0, none⟩) (by have := HBN.out; simp; omega) _
  have hset : ∀ g, g ≠ w11.heap.size → z2.heap[g]? = y2.heap[g]? := fun g hg => by rw [hz2]; exact Below.heap_setCell _ _ _ _ (by simpa using hg)
  have hqz : z2.heap[w11.heap.size]? = some (.cells #[.slice g2 n2 t2] 26 (0, 0)) := by rw [hz2]; exact heap_setCell_here (i := 0) _ hq
  have hpz := (hset w9.heap.size (by have := HBN.out; omega)).trans hp
  have hr1 : RowAt z2 V1.heap.size d2 e2 r2 := (HRW2.out.below h9).keep (fun g hg _ => hset g (by have := lt_of_heap HR1.out; omega))
  have hr2 : RowAt z2 v2.heap.size g2 t2 r2 := hrow.keep (fun g hg _ => hset g (by have := lt_of_heap HQV2.out; omega))
  have hsm := same_any z2 d2 g2 e2 t2 r2 r2 hr1.rd hr2.rd HL2.out HL2.out
  rw [decide_eq_true rfl, ← HQ2.out] at hsm
  have HSA := Lib.hid hsm
  have m1 := cell_of_heap hq 0
  have m2 := frozen_of_heap hq
  have m3 := cell_of_heap hqz 0
  have m4 := cell_of_heap hpz 0
  have HZ := Lib.hid hz2; have HHZ := Lib.hid hHz; have HPZ := Lib.hid hpz; have HQZ := Lib.hid hqz
  rw [hz2] at m3 m4
  clear k1 k2 k3 k4 h9 hrow hp hq hHz hset hqz hpz hr1 hr2 hsm hz2 q7 qf
  go_wp2_with fail
  rw [← HZ.out]
  refine HSA.out.mono ?_
  rintro e V2 ⟨rfl, h13⟩
  have HV2 := Lib.hid (HHZ.out.trans (h13.mono HHZ.out.size))
  have HP2 := Lib.hid ((h13.block _ (lt_of_heap HPZ.out)).trans HPZ.out)
  have HR2 := Lib.hid ((h13.block _ (lt_of_heap HQZ.out)).trans HQZ.out)
  clear h13 m1 m2 m3 m4
  have k1 := cell_of_heap (HKEEP.out V2 HV2.out).1 0
  have k2 := cell_of_heap (HKEEP.out V2 HV2.out).2.1 0
  have k3 := cell_of_heap (HKEEP.out V2 HV2.out).2.2 0
  have k4 := cell_of_heap (HKEEP.out V2 HV2.out).2.2 1
  go_wp2_with fail
  refine (HA3.out V2 HV2.out).mono ?_
  rintro e u3 ⟨d3, e3, rfl, hrow, h9⟩
  have HU3 := Lib.hid (HV2.out.trans (h9.mono HV2.out.size))
  have hp := (h9.block _ (lt_of_heap HP2.out)).trans HP2.out
  have hq := (h9.block _ (lt_of_heap HR2.out)).trans HR2.out
  obtain ⟨v3, hv3⟩ : ∃ W, W = u3.setCell ⟨w9.heap.size, 0, none⟩ (.slice d3 n3 e3) := ⟨_, rfl⟩
  have hHv : Below w3.heap.size w3 v3 := by rw [hv3]; exact HU3.out.setCell (p := ⟨w9.heap.size, 0, none⟩) HBN.out.1 _
  have hset : ∀ g, g ≠ w9.heap.size → v3.heap[g]? = u3.heap[g]? := fun g hg => by rw [hv3]; exact Below.heap_setCell _ _ _ _ (by simpa using hg)
  have hpv : v3.heap[w9.heap.size]? = some (.cells #[.slice d3 n3 e3] 26 (0, 0)) := by rw [hv3]; exact heap_setCell_here (i := 0) _ hp
  have hqv := (hset w11.heap.size (by have := HBN.out; omega)).trans hq
  have hlp := lt_of_heap HP2.out
  have hlq := lt_of_heap HR2.out
  have hrw : RowAt v3 V2.heap.size d3 e3 r3 := hrow.keep (fun g hg _ => hset g (by omega))
  have q7 := cell_of_heap hp 0
  have qf := frozen_of_heap hp
  have HW3 := Lib.hid hHv; have HPV3 := Lib.hid hpv; have HQV3 := Lib.hid hqv; have HRW3 := Lib.hid hrw; have HVV := Lib.hid hv3
  have HLP3 := Lib.hid (Nat.lt_of_lt_of_le hlp h9.size); have HLQ3 := Lib.hid (Nat.lt_of_lt_of_le hlq h9.size)
  have HSZV := Lib.hid (show v3.heap.size = u3.heap.size by rw [hv3]; simp [World.setCell])
  clear k1 k2 k3 k4 h9 hrow hp hq hHv hset hpv hqv hlp hlq hrw hv3
  have k1 := cell_of_heap (HKEEP.out v3 HW3.out).1 0
  have k2 := cell_of_heap (HKEEP.out v3 HW3.out).2.1 0
  have k3 := cell_of_heap (HKEEP.out v3 HW3.out).2.2 0
  have k4 := cell_of_heap (HKEEP.out v3 HW3.out).2.2 1
  rw [HVV.out] at k1 k2 k3 k4
  go_wp2_with fail
  rw [← HVV.out]
  refine (HB3.out v3 HW3.out).mono ?_
  rintro e y3 ⟨g3, t3, rfl, hrow, h9⟩
  have hp := (h9.block _ (lt_of_heap HPV3.out)).trans HPV3.out
  have hq := (h9.block _ (lt_of_heap HQV3.out)).trans HQV3.out
  obtain ⟨z3, hz3⟩ : ∃ W, W = y3.setCell ⟨w11.heap.size, 0, none⟩ (.slice g3 n3 t3) := ⟨_, rfl⟩
  have hHz : Below w3.heap.size w3 z3 := by rw [hz3]; exact (HW3.out.trans (h9.mono HW3.out.size)).setCell (p := ⟨w11.heap.size, 0, none⟩) (by have := HBN.out; simp; omega) _
  have hset : ∀ g, g ≠ w11.heap.size → z3.heap[g]? = y3.heap[g]? := fun g hg => by rw [hz3]; exact Below.heap_setCell _ _ _ _ (by simpa using hg)
  have hqz : z3.heap[w11.heap.size]? = some (.cells #[.slice g3 n3 t3] 26 (0, 0)) := by rw [hz3]; exact heap_setCell_here (i := 0) _ hq
  have hpz := (hset w9.heap.size (by have := HBN.out; omega)).trans hp
  have hr1 : RowAt z3 V2.heap.size d3 e3 r3 := (HRW3.out.below h9).keep (fun g hg _ => hset g (by have := lt_of_heap HR2.out; omega))
  have hr2 : RowAt z3 v3.heap.size g3 t3 r3 := hrow.keep (fun g hg _ => hset g (by have := lt_of_heap HQV3.out; omega))
  have hsm := same_any z3 d3 g3 e3 t3 r3 r3 hr1.rd hr2.rd HL3.out HL3.out
  rw [decide_eq_true rfl, ← HQ3.out] at hsm
  have HSA := Lib.hid hsm
  have m1 := cell_of_heap hq 0
  have m2 := frozen_of_heap hq
  have m3 := cell_of_heap hqz 0
  have m4 := cell_of_heap hpz 0
  have HZ := Lib.hid hz3; have HHZ := Lib.hid hHz; have HPZ := Lib.hid hpz; have HQZ := Lib.hid hqz
  rw [hz3] at m3 m4
  clear k1 k2 k3 k4 h9 hrow hp hq hHz hset hqz hpz hr1 hr2 hsm hz3 q7 qf
  go_wp2_with fail
  rw [← HZ.out]
  refine HSA.out.mono ?_
  rintro e V3 ⟨rfl, h13⟩
  have HV3 := Lib.hid (HHZ.out.trans (h13.mono HHZ.out.size))
  have HP3 := Lib.hid ((h13.block _ (lt_of_heap HPZ.out)).trans HPZ.out)
  have HR3 := Lib.hid ((h13.block _ (lt_of_heap HQZ.out)).trans HQZ.out)
  clear h13 m1 m2 m3 m4
  go_wp2_with fail
  go_ret
  first | exact ⟨rfl, HEND.out _ HV3.out⟩ | exact ⟨rfl, HENDB.out _ HV3.out⟩
end Go.Proofs.YtjcimajkjnjdpaaGreatDoor
