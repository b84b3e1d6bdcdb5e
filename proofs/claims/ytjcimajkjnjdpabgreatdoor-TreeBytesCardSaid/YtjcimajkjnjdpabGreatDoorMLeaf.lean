/- DERIVED. Texts of this claim, put together: TreeArgT, TreeTab, TreeGreat. -/
import Derived.Test.YtjcimajkjnjdpabGreatDoorTreeArg
import Derived.Test.YtjcimajkjnjdpabGreatDoorMSexp
import Derived.Test.YtjcimajkjnjdpabGreatDoorTreeMount
/- DERIVED. An argument that is a tree, or a file. -/
namespace Go.Proofs.YtjcimajkjnjdpabGreatDoor
open Go.RowKit Go.Shelf Go.ChangeShapes Go.WideShapes
set_option linter.unusedVariables false
set_option maxRecDepth 100000

theorem tree_of_arg {H : Type} {enc : TypeId × Value → H} {w : World} {fuel : Nat} {v : Value} (h : Arg enc Tryz.prog w fuel 24 [v]) :
    ∃ (ps : List Pr) (a : Option Addr) (c : Nat), v = .slice a ps.length c ∧ RdFl w a ps ∧ Sl a ps.length c ∧ ps.length ≤ c ∧ c ≤ 4398046511104 ∧ Sz ps := by
  obtain ⟨_, hf⟩ := h.struct Tryz.underlying24
  have f0 : Arg enc Tryz.prog w (fuel - 1) 22 (List.take (Tryz.prog.cellsOf 22) [v]) := hf 0 _ rfl
  rw [show Tryz.prog.cellsOf 22 = 1 from by kernel_rfl] at f0
  exact files_of_arg f0
theorem treeV {H : Type} {enc : TypeId × Value → H} {w : World} {fuel base : Nat} {r : Reach} {v : Value} (o : Value.okWide Tryz.prog w r base 24 v) (h : Arg enc Tryz.prog w fuel 24 v.cells.toList) :
    ∃ (ps : List Pr) (a : Option Addr) (c : Nat), v = .agg #[.slice a ps.length c] ∧ RdFl w a ps ∧ Sl a ps.length c ∧ Sz ps := by
  obtain ⟨cs, rfl, hs⟩ := okWide_struct Tryz.underlying24 o
  rw [show Tryz.prog.cellsOf 24 = 1 from by kernel_rfl] at hs
  obtain ⟨cs⟩ := cs
  have hs : cs.length = 1 := by simpa using hs
  obtain ⟨x, rfl⟩ : ∃ x, cs = [x] := by
    match cs, hs with
    | [x], _ => exact ⟨x, rfl⟩
  obtain ⟨ps, a, c, rfl, h1, h2, _, _, h3⟩ := tree_of_arg (v := x) h
  exact ⟨ps, a, c, rfl, h1, h2, h3⟩
end Go.Proofs.YtjcimajkjnjdpabGreatDoor

/- DERIVED. The table of powers of ten, out of the five pinned tables of the Tree seat. -/
namespace Go.Proofs.YtjcimajkjnjdpabGreatDoor
open Go.RowKit
set_option linter.unusedVariables false
set_option maxRecDepth 100000

theorem tab_of_laid5 {w : World} (h : laidMetH Tryz.prog [("math/bits.deBruijn32tab", Rows.laid_math_bits_deBruijn32tab), ("math/bits.deBruijn64tab", Rows.laid_math_bits_deBruijn64tab), ("internal/strconv.uint64pow10", Rows.laid_internal_strconv_uint64pow10), ("unicode/utf8.acceptRanges", Rows.laid_unicode_utf8_acceptRanges), ("unicode/utf8.first", Rows.laid_unicode_utf8_first)] w) : Tab w := by
  rw [MakeChecks.laidMetH_plain _ _ _ (by kernel_rfl)] at h
  have h3 := h.tail.tail
  have e : (Rows.laid_internal_strconv_uint64pow10 : DataW Unit) = Lib.tabData .u64 Lib.pow10Tab := by kernel_rfl
  rw [e] at h3
  exact Lib.tabIs_of_head (g := 3) (t := 150) (e := 120) (n := 20) (by kernel_rfl) (by kernel_rfl) Tryz.underlying150 Tryz.underlying120 (by kernel_rfl) (by kernel_rfl) h3
end Go.Proofs.YtjcimajkjnjdpabGreatDoor

/- DERIVED. More than is played? -/
namespace Go.Proofs.YtjcimajkjnjdpabGreatDoor
open Go.RowKit
set_option linter.unusedVariables false

structure SmallF (ps : List Pr) : Prop where
  len : ps.length ≤ 200
  each : ∀ p ∈ ps, p.1.length ≤ 131072 ∧ p.2.length ≤ 131072
theorem fits_next {ps : List Pr} {k : Nat} {p : Pr} (h : ∀ x ∈ ps.take k, x.1.length ≤ 131072 ∧ x.2.length ≤ 131072) (hp : ps[k]? = some p) (h1 : p.1.length ≤ 131072) (h2 : p.2.length ≤ 131072) : ∀ x ∈ ps.take (k + 1), x.1.length ≤ 131072 ∧ x.2.length ≤ 131072 := by
  intro x hx
  rw [List.take_add_one, hp] at hx
  rcases List.mem_append.1 hx with hx | hx
  · exact h x hx
  · simp at hx; subst hx; exact ⟨h1, h2⟩
set_option maxRecDepth 100000 in
set_option maxHeartbeats 8000000 in
theorem great_any (w : World) (a : Option Addr) (c : Nat) (ps : List Pr) (hr : RdFl w a ps) (hsz : Sz ps) :
    Calls Tryz.prog 6 #[.slice a ps.length c] w (fun e w' => ∃ b : Bool, e = .returned (.bool b) ∧ (b = false → SmallF ps) ∧ Below w.heap.size w w') := by
  obtain ⟨n, hnn⟩ : ∃ n, n = ps.length := ⟨_, rfl⟩
  have hnl : n ≤ 4398046511104 := by rw [hnn]; exact hsz.len
  rw [← hnn]
  have HR := Lib.hid hr; have HN := Lib.hid hnn; have HSZ := Lib.hid hsz
  clear hr hnn hsz
  go_enter Tryz.func6, Tryz.ntmps6
  go_wp2_with fail
  go_loopw [3, 8] (fun y x wr => ∃ (k N : Nat), x = .int .i64 k ∧ y = .int .i64 N ∧ k ≤ n ∧ N ≤ 131072 ∧ Hid (∀ p ∈ ps.take k, p.1.length ≤ 131072 ∧ p.2.length ≤ 131072) ∧ Hid (Below w.heap.size w wr)) (fun _ x _ => n - (intOf x).toNat)
  case atStart => exact ⟨0, 0, rfl, rfl, Nat.zero_le _, Nat.zero_le _, (fun p hp => by cases hp), Below.refl _ _⟩
  case round =>
    obtain ⟨k, N, rfl, rfl, hkn, hNb, hfu, hbw⟩ := hrel
    by_cases hlt : k < n
    · obtain ⟨p, hp⟩ : ∃ p, ps[k]? = some p := ⟨_, List.getElem?_eq_getElem (by rw [← HN.out]; exact hlt)⟩
      obtain ⟨rb2, o2, rfl, _, hcs2⟩ := HR.out.below hbw.out (fun e => by rw [e] at hp; cases hp)
      obtain ⟨q0, q1⟩ := hcs2 k p hp
      obtain ⟨hp1, hp2⟩ := HSZ.out.each p (List.mem_of_getElem? hp)
      obtain ⟨P1, hP1⟩ : ∃ S : ByteArray, S = ⟨p.1.toArray⟩ := ⟨_, rfl⟩
      obtain ⟨P2, hP2⟩ : ∃ S : ByteArray, S = ⟨p.2.toArray⟩ := ⟨_, rfl⟩
      have hy1 : P1.size = p.1.length := by rw [hP1, str_size]
      have hy2 : P2.size = p.2.length := by rw [hP2, str_size]
      have hy3 : P1.size ≤ 140737488351232 := by omega
      have hy4 : P2.size ≤ 140737488351232 := by omega
      unfold strV at q0 q1
      rw [← hP1] at q0; rw [← hP2] at q1
      obtain ⟨w3, hw3, hb3, hgx, _, _⟩ := new_two wr (.string P1) (.string P2) 35
      have g0 := cell_of_heap hgx 0
      have g1 := cell_of_heap hgx 1
      have HP := Lib.hid hp; have HY := Lib.hid (And.intro hy1 hy2)
      have HB4 := Lib.hid (hbw.out.trans (hb3.mono hbw.out.size))
      clear hcs2 hgx hp hb3 hP1 hP2 hy1 hy2 hp1 hp2
      by_cases hbig : 131072 < N + (P1.size + P2.size)
      · have hbig2 : (131072 : Int) < (N : Int) + ((P1.size : Int) + (P2.size : Int)) := by omega
        go_wp2_with fail
        go_ret
        exact ⟨true, rfl, (fun h => by cases h), HB4.out⟩
      · have hbig2 : ¬ (131072 : Int) < (N : Int) + ((P1.size : Int) + (P2.size : Int)) := by omega
        have HFU := Lib.hid (fits_next hfu.out HP.out (by have := HY.out.1; omega) (by have := HY.out.2; omega))
        go_wp2_with fail
        go_roundw
        case rel => exact ⟨k + 1, N + (P1.size + P2.size), by go_num, by go_num, hlt, by omega, HFU, HB4⟩
        case measure => simp [intOf]; omega
    · have hfu2 := hfu.out
      rw [List.take_of_length_le (by rw [← HN.out]; omega)] at hfu2
      have HFU := Lib.hid hfu2
      clear hfu2
      go_wp2_with fail
      go_ret
      refine ⟨_, rfl, fun h => ⟨?_, HFU.out⟩, hbw.out⟩
      rw [← HN.out]
      simp at h
      omega
end Go.Proofs.YtjcimajkjnjdpabGreatDoor
