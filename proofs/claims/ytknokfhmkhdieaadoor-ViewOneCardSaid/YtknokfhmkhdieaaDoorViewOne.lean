/- DERIVED. The law ViewOne: its plain law, its walk. -/
import Derived.Test.YtknokfhmkhdieaaDoorViewAlive
import Derived.Test.YtknokfhmkhdieaaDoorViewLaw
import Derived.Test.YtknokfhmkhdieaaDoorTreeGetW
namespace Go.Proofs.YtknokfhmkhdieaaDoor
open Go.RowKit Go.ChangeShapes Go.WideShapes
set_option linter.unusedVariables false

theorem small_ok {ms : List Mt} (h : Small ms) : MtOk ms := ⟨fun m hm => by have := h.dir m hm; omega, fun m hm => by have := h.files m hm; omega, fun m hm p hp => by have := (h.file m hm p hp).1; omega⟩
theorem behind_is {d s : List UInt8} (h : d ≠ []) : putBehind d s = d ++ 47 :: s := by unfold putBehind; rw [if_neg h]
/-- One tree, mounted alone. -/
theorem one_law {m : Mt} {t : List Pr} (h : buildT [m] = (0, t)) : goodT t = true ∧ goodT m.2 = true ∧ t.length = m.2.length ∧ (∀ p, getT t (m.1 ++ 47 :: p) = getT m.2 p) ∧ (getT t m.1).2 = false := by
  obtain ⟨h1, h2, h3⟩ := buildT_iff.1 h
  obtain ⟨c1, _, _⟩ := (checkT_none _ _).1 h1
  have hg := c1 m (by simp)
  have hne := good_ne hg
  have hok := h2 m (by simp)
  have hfl : flatM [m] = m.2.map (behF m.1) := by rw [flatM_cons]; show _ ++ [] = _; rw [List.append_nil]
  rw [hfl] at h3
  obtain ⟨z1, z2, z3, z4, z5⟩ := makeT_zero h3
  obtain ⟨s1, s2, s3⟩ := sortT_is _ (twice_false.1 z3)
  rw [z5] at s1 s2 s3
  rw [List.length_map] at s3
  have hsm := (goodT_files hok.good).2.2.1
  have hmem : ∀ k v, (k, v) ∈ t ↔ ∃ q ∈ m.2, k = m.1 ++ 47 :: q.1 ∧ v = q.2 := by
    intro k v
    rw [s2, List.mem_map]
    constructor
    · rintro ⟨q, hq, e⟩
      unfold behF at e
      rw [behind_is hne] at e
      obtain ⟨e1, e2⟩ := Prod.mk.inj e
      exact ⟨q, hq, e1.symm, e2.symm⟩
    · rintro ⟨q, hq, rfl, rfl⟩
      exact ⟨q, hq, by unfold behF; rw [behind_is hne]⟩
  refine ⟨makeT_good h3, hok.good, s3, fun p => ?_, ?_⟩
  · by_cases hp : ∃ v, (p, v) ∈ m.2
    · obtain ⟨v, hv⟩ := hp
      rw [getT_in hsm.nodup hv, getT_in s1.nodup ((hmem _ _).2 ⟨(p, v), hv, rfl, rfl⟩)]
    · rw [getT_out (fun v hv => hp ⟨v, hv⟩), getT_out (fun v hv => ?_)]
      obtain ⟨q, hq, e, rfl⟩ := (hmem _ _).1 hv
      have e2 := List.append_cancel_left e
      exact hp ⟨q.2, by rw [(List.cons.inj e2).2]; exact hq⟩
  · rw [getT_out (fun v hv => ?_)]
    obtain ⟨q, hq, e, rfl⟩ := (hmem _ _).1 hv
    have := congrArg List.length e
    simp at this
theorem rdMt_one {w : World} {b : Nat} {u : List UInt8} {a1 : Option Addr} {c1 : Nat} {f1 : List Pr} {t : TypeId} (h : w.heap[b]? = some (.cells #[strV u, .slice a1 f1.length c1] t (0, 0)))
    (h1 : RdFl w a1 f1) (s1 : Sl a1 f1.length c1) : RdMt w (some ⟨b, 0, none⟩) [(u, f1)] := fun _ =>
  ⟨b, 0, rfl, lt_of_heap h, fun i p hi => by
    match i, hi with
    | 0, hi =>
      obtain rfl := Option.some.inj hi
      exact ⟨cell_of_heap h 0, a1, c1, cell_of_heap h 1, h1, s1⟩
    | i + 1, hi => cases hi⟩
theorem mountV {H : Type} {enc : TypeId × Value → H} {w : World} {fuel base : Nat} {r : Reach} {v : Value} (o : Value.okWide Tryd.prog w r base 36 v) (h : Arg enc Tryd.prog w fuel 36 v.cells.toList) :
    ∃ (m : Mt) (a : Option Addr) (c : Nat), v = .agg #[strV m.1, .slice a m.2.length c] ∧ m.1.length ≤ 140737488351232 ∧ RdFl w a m.2 ∧ Sl a m.2.length c ∧ Sz m.2 := by
  obtain ⟨cs, rfl, hs⟩ := okWide_struct Tryd.underlying36 o
  rw [show Tryd.prog.cellsOf 36 = 2 from by kernel_rfl] at hs
  obtain ⟨cs⟩ := cs
  have hs : cs.length = 2 := by simpa using hs
  obtain ⟨x, y, rfl⟩ : ∃ x y, cs = [x, y] := by
    match cs, hs with
    | [x, y], _ => exact ⟨x, y, rfl⟩
  obtain ⟨m, rfl, h1, a, c, rfl, h2, h3, h4⟩ := mount_of_arg (u := x) (v := y) h
  exact ⟨m, a, c, rfl, h1, h2, h3, h4⟩
theorem tget_str (w : World) (a : Option Addr) (c : Nat) (ps : List Pr) (S : ByteArray) (hr : RdFl w a ps) (hs : Srt ps) (hl : ps.length ≤ 1000000) :
    Calls Tryd.prog 17 #[.agg #[.slice a ps.length c], .string S] w (fun e w' => e = .returned (.tuple #[strV (getT ps S.data.toList).1, .bool (getT ps S.data.toList).2]) ∧ Below w.heap.size w w') := by
  have := tget_any w a c ps S.data.toList hr hs hl
  rwa [← strV_of (B := S) rfl] at this
set_option maxRecDepth 100000 in
set_option maxHeartbeats 16000000 in
theorem one_walk (w : World) (m : Mt) (a : Option Addr) (c : Nat) (P : ByteArray) (hml : m.1.length ≤ 140737488351232) (hr : RdFl w a m.2) (hs : Sl a m.2.length c) (hsz : Sz m.2) :
    Calls Tryd.prog 7 #[.agg #[strV m.1, .slice a m.2.length c], .string P] w (fun e w' => e = .returned (.bool true) ∧ Below w.heap.size w w') := by
  obtain ⟨n, hnn⟩ : ∃ n, n = m.2.length := ⟨_, rfl⟩
  have hG : ∀ W, Below w.heap.size w W → Calls Tryd.prog 9 #[.slice (some ⟨W.heap.size, 0, none⟩) 1 1] (W.alloc (.cells #[strV m.1, .slice a n c] 36)) (fun e w' => ∃ b : Bool, e = .returned (.bool b) ∧ (b = false → Small [m]) ∧ Below W.heap.size W w') := by
    intro W hW
    rw [hnn]
    have hb := hW.alloc hW.size (.cells #[strV m.1, .slice a m.2.length c] 36)
    refine (great_any _ _ 1 [m] (rdMt_one (heap_alloc_new W _) (hr.below hb) hs) ⟨fun x hx => ?_, fun x hx => ?_, by simp⟩).mono ?_
    · obtain rfl := List.mem_singleton.1 hx; exact hml
    · obtain rfl := List.mem_singleton.1 hx; exact hsz
    · rintro e w' ⟨b, rfl, h1, h2⟩
      have hb1 : Below W.heap.size W (W.alloc (.cells #[strV m.1, .slice a m.2.length c] 36)) := (Below.refl _ _).alloc (Nat.le_refl _) _
      exact ⟨b, rfl, h1, hb1.trans (h2.mono hb1.size)⟩
  have hB : ∀ W, Below w.heap.size w W → Small [m] → Calls Tryd.prog 10 #[.slice (some ⟨W.heap.size, 0, none⟩) 1 1] (W.alloc (.cells #[strV m.1, .slice a n c] 36)) (MakeTo W (buildT [m])) := by
    intro W hW hsm
    rw [hnn]
    have hb := hW.alloc hW.size (.cells #[strV m.1, .slice a m.2.length c] 36)
    have hb1 : Below W.heap.size W (W.alloc (.cells #[strV m.1, .slice a m.2.length c] 36)) := (Below.refl _ _).alloc (Nat.le_refl _) _
    refine (build_any _ _ 1 [m] (rdMt_one (heap_alloc_new W _) (hr.below hb) hs) (Nat.le_refl _) (by unfold maxLen; omega) (by simp) (small_ok hsm)).mono ?_
    rintro e w' ⟨a', c', rfl, h1, h2⟩
    exact ⟨a', c', rfl, h1.base hb1.size, hb1.trans (h2.mono hb1.size)⟩
  obtain ⟨D, hD⟩ : ∃ D : ByteArray, D = ⟨m.1.toArray⟩ := ⟨_, rfl⟩
  have hDz : D.size = m.1.length := by rw [hD, str_size]
  have hDd : D.data.toList = m.1 := by rw [hD]
  obtain ⟨w1, hw1, hb1, hx1, _, _⟩ := new_two w (.string D) (.slice a n c) 36
  have hX : ∀ W, Below w1.heap.size w1 W → W.cell? ⟨w.heap.size, 0, none⟩ = some (.string D) ∧ W.cell? ⟨w.heap.size, 1, none⟩ = some (.slice a n c) := fun W h => ⟨cell_of_heap ((h.block _ (lt_of_heap hx1)).trans hx1) 0, cell_of_heap ((h.block _ (lt_of_heap hx1)).trans hx1) 1⟩
  rw [← hnn]
  unfold strV at hG hB ⊢
  rw [← hD] at hG hB ⊢
  have HG := Lib.hid hG; have HB := Lib.hid hB; have HX := Lib.hid hX; have HR := Lib.hid hr; have HS := Lib.hid hs; have HN := Lib.hid hnn; have HB1 := Lib.hid hb1; have HD := Lib.hid (And.intro hDz hDd)
  clear hG hB hX hr hs hsz hnn hb1 hx1 hDz hDd hD hml
  go_enter Tryd.func7, Tryd.ntmps7
  go_wp2_with fail
  refine (alive_any _).mono ?_
  rintro e w2 ⟨rfl, h2⟩
  obtain ⟨x0, x1⟩ := HX.out w2 h2
  have H2 := Lib.hid h2
  have HW2 := Lib.hid (HB1.out.trans (h2.mono HB1.out.size))
  clear h2
  go_wp2_with fail
  refine (HG.out w2 HW2.out).mono ?_
  rintro e w3 ⟨b, rfl, hsm, h3⟩
  have HSM := Lib.hid hsm
  have H3 := Lib.hid (H2.out.trans (h3.mono H2.out.size))
  have HW3 := Lib.hid (HW2.out.trans (h3.mono HW2.out.size))
  clear h3 hsm x0 x1
  cases b
  · have HS1 := Lib.hid (HSM.out rfl)
    by_cases hP : 1024 < P.size
    · go_wp2_with fail
      go_ret
      exact ⟨rfl, HW3.out⟩
    · obtain ⟨x0, x1⟩ := HX.out w3 H3.out
      have hD131 : D.size ≤ 131072 := by have := HS1.out.dir m (by simp); have := HD.out.1; omega
      cases hbt : buildT [m] with
      | mk x t =>
      have hBB := HB.out w3 HW3.out HS1.out
      rw [hbt] at hBB
      unfold MakeTo at hBB
      dsimp only at hBB
      obtain ⟨nt, hnt⟩ : ∃ nt, nt = t.length := ⟨_, rfl⟩
      rw [← hnt] at hBB
      have HBB := Lib.hid hBB; have HNT := Lib.hid hnt; have HBT := Lib.hid hbt
      clear hBB hnt hbt
      by_cases hx : x = 0
      · subst hx
        obtain ⟨g1, g2, g3, g4, g5⟩ := one_law HBT.out
        have hnn2 : nt = n := by rw [HNT.out, HN.out]; exact g3
        subst hnn2
        have HG1 := Lib.hid (goodT_files g1); have HG2 := Lib.hid (goodT_files g2); have HG4 := Lib.hid g4; have HG5 := Lib.hid g5
        have hn32 : nt ≤ 32 := by rw [HNT.out]; exact (goodT_files g1).1
        clear g1 g2 g3 g4 g5
        go_wp2_with fail
        refine HBB.out.mono ?_
        rintro e w4 ⟨a4, c4, rfl, hrow, h4⟩
        obtain ⟨w5, hw5, hb5, hx5, _, _⟩ := new_cell w4 (.slice a4 nt c4) 27
        have hb45 := h4.trans (hb5.mono h4.size)
        have hw35 := HW3.out.trans (hb45.mono HW3.out.size)
        have h35 := H3.out.trans (hb45.mono H3.out.size)
        have hrow5 := hrow.below hb5
        have hY : ∀ W, Below w5.heap.size w5 W → W.cell? ⟨w4.heap.size, 0, none⟩ = some (.slice a4 nt c4) := fun W h => cell_of_heap ((h.block _ (lt_of_heap hx5)).trans hx5) 0
        obtain ⟨E, hE⟩ : ∃ E : ByteArray, E = D ++ ⟨#[47]⟩ ++ P := ⟨_, rfl⟩
        have hEd : E.data.toList = m.1 ++ 47 :: P.data.toList := by rw [hE, ← HD.out.2]; simp
        have hT1 := fun W (h : Below w5.heap.size w5 W) => tget_str W a4 c4 t E ((hrow5.below h).rd) HG1.out.2.2.1 (by have := HG1.out.1; omega)
        have hT2 := fun W (h : Below w5.heap.size w5 W) => tget_str W a c m.2 P (HR.out.below (hw35.trans (h.mono hw35.size))) HG2.out.2.2.1 (by have := HG2.out.1; omega)
        have hT3 := fun W (h : Below w5.heap.size w5 W) => tget_str W a4 c4 t D ((hrow5.below h).rd) HG1.out.2.2.1 (by have := HG1.out.1; omega)
        rw [hEd, HG4.out, ← HNT.out] at hT1
        rw [← HN.out] at hT2
        rw [HD.out.2, HG5.out, ← HNT.out] at hT3
        obtain ⟨b1, hb1⟩ : ∃ b, b = (getT m.2 P.data.toList).2 := ⟨_, rfl⟩
        unfold strV at hT1 hT2 hT3
        obtain ⟨V, hV⟩ : ∃ V : ByteArray, V = ⟨(getT m.2 P.data.toList).1.toArray⟩ := ⟨_, rfl⟩
        obtain ⟨U, hU⟩ : ∃ V : ByteArray, V = ⟨(getT t m.1).1.toArray⟩ := ⟨_, rfl⟩
        rw [← hV, ← hb1] at hT1 hT2
        rw [← hU] at hT3
        have hcat : D ++ ⟨#[47]⟩ ++ P = E := hE.symm
        have HT1 := Lib.hid hT1; have HT2 := Lib.hid hT2; have HT3 := Lib.hid hT3; have HY := Lib.hid hY; have HW5 := Lib.hid hw35; have H5 := Lib.hid h35
        obtain ⟨y0, y1⟩ := HX.out w5 h35
        have y2 := hY w5 (Below.refl _ _)
        clear hrow h4 hb5 hx5 hb45 hw35 h35 hrow5 hY hE hEd hT1 hT2 hT3 hV hU hb1 x0 x1
        go_wp2_with fail
        refine (HT1.out w5 (Below.refl _ _)).mono ?_
        rintro e w6 ⟨rfl, h6⟩
        obtain ⟨y0, y1⟩ := HX.out w6 (H5.out.trans (h6.mono H5.out.size))
        have y2 := HY.out w6 h6
        have H6 := Lib.hid h6
        clear h6 hcat
        go_wp2_with fail
        refine (HT2.out w6 H6.out).mono ?_
        rintro e w7 ⟨rfl, h7⟩
        have H7 := Lib.hid (H6.out.trans (h7.mono H6.out.size))
        obtain ⟨y0, y1⟩ := HX.out w7 (H5.out.trans (H7.out.mono H5.out.size))
        have y2 := HY.out w7 H7.out
        clear h7
        go_wp2_with fail
        refine (HT3.out w7 H7.out).mono ?_
        rintro e w8 ⟨rfl, h8⟩
        have H8 := Lib.hid (H7.out.trans (h8.mono H7.out.size))
        obtain ⟨y0, y1⟩ := HX.out w8 (H5.out.trans (H8.out.mono H5.out.size))
        have y2 := HY.out w8 H8.out
        clear h8
        cases b1
        all_goals
          go_wp2_with fail
          go_ret
          exact ⟨rfl, HW5.out.trans (H8.out.mono HW5.out.size)⟩
      · have ht : t = [] := buildT_bad HBT.out hx
        have hn0 : nt = 0 := by rw [HNT.out, ht]; rfl
        subst hn0
        have hx1' : (x == 0) = false := beq_eq_false_iff_ne.2 hx
        have hx2' : (x != 0) = true := by simpa using hx
        go_wp2_with fail
        refine HBB.out.mono ?_
        rintro e w4 ⟨a4, c4, rfl, hrow, h4⟩
        have HW5 := Lib.hid ((HW3.out.trans (h4.mono HW3.out.size)).alloc (HW3.out.trans (h4.mono HW3.out.size)).size (.cells #[.slice a4 0 c4] 27))
        clear hrow h4 x0 x1
        go_wp2_with fail
        go_ret
        exact ⟨rfl, HW5.out⟩
  · go_wp2_with fail
    go_ret
    exact ⟨rfl, HW3.out⟩
end Go.Proofs.YtknokfhmkhdieaaDoor
