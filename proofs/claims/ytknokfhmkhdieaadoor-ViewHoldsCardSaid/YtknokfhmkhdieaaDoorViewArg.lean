/- DERIVED. Arguments that are mounts; whether they are too great. -/
import Derived.Test.YtknokfhmkhdieaaDoorTreeArg
import Derived.Test.YtknokfhmkhdieaaDoorViewBuild
namespace Go.Proofs.YtknokfhmkhdieaaDoor
open Go.RowKit Go.ChangeShapes Go.WideShapes
set_option linter.unusedVariables false

theorem tree_of_arg {H : Type} {enc : TypeId × Value → H} {w : World} {fuel : Nat} {v : Value} (h : Arg enc Tryd.prog w fuel 27 [v]) :
    ∃ (ps : List Pr) (a : Option Addr) (c : Nat), v = .slice a ps.length c ∧ RdFl w a ps ∧ Sl a ps.length c ∧ ps.length ≤ c ∧ c ≤ 4398046511104 ∧ Sz ps := by
  obtain ⟨_, hf⟩ := h.struct Tryd.underlying27
  have f0 : Arg enc Tryd.prog w (fuel - 1) 25 (List.take (Tryd.prog.cellsOf 25) [v]) := hf 0 _ rfl
  rw [show Tryd.prog.cellsOf 25 = 1 from by kernel_rfl] at f0
  exact files_of_arg f0
theorem mount_of_arg {H : Type} {enc : TypeId × Value → H} {w : World} {fuel : Nat} {u v : Value} (h : Arg enc Tryd.prog w fuel 36 [u, v]) :
    ∃ m : Mt, u = strV m.1 ∧ m.1.length ≤ 140737488351232 ∧ ∃ a c, v = .slice a m.2.length c ∧ RdFl w a m.2 ∧ Sl a m.2.length c ∧ Sz m.2 := by
  obtain ⟨_, hf⟩ := h.struct Tryd.underlying36
  have f0 : Arg enc Tryd.prog w (fuel - 1) 9 (List.take (Tryd.prog.cellsOf 9) [u, v]) := hf 0 _ rfl
  have f1 : Arg enc Tryd.prog w (fuel - 1) 27 (List.take (Tryd.prog.cellsOf 27) [v]) := hf 1 _ rfl
  rw [show Tryd.prog.cellsOf 9 = 1 from by kernel_rfl] at f0
  rw [show Tryd.prog.cellsOf 27 = 1 from by kernel_rfl] at f1
  simp only [List.take_succ_cons, List.take_zero] at f0 f1
  obtain ⟨s, e0, h0⟩ := f0.string Tryd.underlying9
  obtain ⟨ps, a, c, rfl, h1, h2, _, _, h3⟩ := tree_of_arg f1
  simp only [List.cons.injEq, and_true] at e0
  exact ⟨(s.data.toList, ps), by rw [e0]; unfold strV; cases s; simp, by simpa using h0, a, c, rfl, h1, h2, h3⟩
structure MtSz (ms : List Mt) : Prop where
  dir : ∀ m ∈ ms, m.1.length ≤ 140737488351232
  file : ∀ m ∈ ms, Sz m.2
  len : ms.length ≤ 4398046511104
theorem mounts_of_arg {H : Type} {enc : TypeId × Value → H} {w : World} {fuel : Nat} {v : Value} (h : Arg enc Tryd.prog w fuel 22 [v]) :
    ∃ (ms : List Mt) (a : Option Addr) (c : Nat), v = .slice a ms.length c ∧ RdMt w a ms ∧ Sl a ms.length c ∧ ms.length ≤ c ∧ c ≤ 4398046511104 ∧ MtSz ms := by
  obtain ⟨a, len, cap, hv, hl, hm, hb, hn, hc⟩ := h.slice Tryd.underlying22
  obtain rfl : v = .slice a len cap := by simpa using hv
  have hcap : cap ≤ 4398046511104 := by
    rw [show Tryd.prog.bytesOf 36 = 40 from by kernel_rfl] at hb
    omega
  rw [show Tryd.prog.cellsOf 36 = 2 from by kernel_rfl] at hc
  have key : ∀ i, i < len → ∃ m : Mt, ∀ ad, a = some ad → ad.spot = none ∧ w.cell? ⟨ad.block, ad.off + i * 2, none⟩ = some (strV m.1) ∧ m.1.length ≤ 140737488351232 ∧ Sz m.2 ∧ ∃ a' c', w.cell? ⟨ad.block, ad.off + i * 2 + 1, none⟩ = some (.slice a' m.2.length c') ∧ RdFl w a' m.2 ∧ Sl a' m.2.length c' := by
    intro i hi
    cases a with
    | none => have := hn rfl; omega
    | some ad =>
      have hs : ad.spot = none := by
        obtain ⟨cs', h1, _⟩ := hc ad rfl 0 (by omega)
        exact spot_first (k := 0) h1
      obtain ⟨cs', h1, h2⟩ := hc ad rfl i hi
      obtain ⟨u, v, rfl, h3, h4⟩ := cells_two h1
      obtain ⟨m, rfl, p1, a', c', rfl, p2, p3, p4⟩ := mount_of_arg h2
      obtain ⟨b, o, sp⟩ := ad
      simp only at hs; subst hs
      rw [Addr.add_lit] at h3
      rw [Addr.add_lit, Addr.add_lit] at h4
      refine ⟨m, fun ad' e => ?_⟩
      obtain rfl := Option.some.inj e
      exact ⟨rfl, h3, p1, p4, a', c', h4, p2, p3⟩
  obtain ⟨f, hf⟩ := Go.Deep.choose_lt (α := Mt) key
  have hall : a = none → len = 0 := fun e => by have := hn e; omega
  have hmem : ∀ r ∈ (List.range len).map f, r.1.length ≤ 140737488351232 ∧ Sz r.2 := by
    intro r hr
    obtain ⟨i, hi, rfl⟩ := List.mem_map.1 hr
    have hi' : i < len := List.mem_range.1 hi
    cases a with
    | none => have := hall rfl; omega
    | some ad =>
      obtain ⟨_, _, h1, h2, _⟩ := hf _ hi' _ rfl
      exact ⟨h1, h2⟩
  refine ⟨(List.range len).map f, a, cap, by simp, ?_, ⟨fun e => ⟨by simpa using hall e, hn e⟩⟩, by simpa using hl, hcap, ⟨fun r hr => (hmem r hr).1, fun r hr => (hmem r hr).2, by simp; omega⟩⟩
  intro hne
  have h0 : 0 < len := by
    rcases Nat.eq_zero_or_pos len with h | h
    · subst h; exact absurd rfl hne
    · exact h
  cases a with
  | none => have := hn rfl; omega
  | some ad =>
    obtain ⟨b, o, s⟩ := ad
    obtain ⟨hs, hc0, _⟩ := hf 0 h0 _ rfl
    simp only at hs; subst hs
    refine ⟨b, o, rfl, cell_lt hc0, fun i p hi => ?_⟩
    have hx : i < len := by
      have := (List.getElem?_eq_some_iff.1 hi).1
      simpa using this
    rw [List.getElem?_map, List.getElem?_range hx] at hi
    obtain rfl := Option.some.inj hi
    obtain ⟨_, h1, _, _, a', c', h2, h3, h4⟩ := hf _ hx _ rfl
    exact ⟨h1, a', c', h2, h3, h4⟩
/-- What 'not too great' says. -/
structure Small (ms : List Mt) : Prop where
  len : ms.length ≤ 40
  dir : ∀ m ∈ ms, m.1.length ≤ 131072
  files : ∀ m ∈ ms, m.2.length ≤ 131072
  file : ∀ m ∈ ms, ∀ p ∈ m.2, p.1.length ≤ 131072 ∧ p.2.length ≤ 131072
def GreatTo (ms : List Mt) (w : World) (e : Ending) (w' : World) : Prop := ∃ b : Bool, e = .returned (.bool b) ∧ (b = false → Small ms) ∧ Below w.heap.size w w'
structure Upto (ms : List Mt) (N : Nat) : Prop where
  dir : ∀ m ∈ ms, m.1.length ≤ N
  files : ∀ m ∈ ms, m.2.length ≤ N
  file : ∀ m ∈ ms, ∀ p ∈ m.2, p.1.length ≤ N ∧ p.2.length ≤ N
theorem Upto.nil (N : Nat) : Upto [] N := ⟨(fun _ h => by cases h), (fun _ h => by cases h), (fun _ h => by cases h)⟩
theorem Upto.next {ms : List Mt} {k N M : Nat} {m : Mt} (h : Upto (ms.take k) N) (hm : ms[k]? = some m) (hNM : N ≤ M) (h1 : m.1.length ≤ M) (h2 : m.2.length ≤ M) (h3 : ∀ p ∈ m.2, p.1.length ≤ M ∧ p.2.length ≤ M) : Upto (ms.take (k + 1)) M := by
  have hx : ∀ x ∈ ms.take (k + 1), x ∈ ms.take k ∨ x = m := by
    intro x hx
    rw [List.take_add_one, hm] at hx
    rcases List.mem_append.1 hx with hx | hx
    · exact .inl hx
    · simp at hx; exact .inr hx
  refine ⟨fun x hx' => ?_, fun x hx' => ?_, fun x hx' p hp => ?_⟩
  · rcases hx x hx' with h' | rfl
    · have := h.dir x h'; omega
    · exact h1
  · rcases hx x hx' with h' | rfl
    · have := h.files x h'; omega
    · exact h2
  · rcases hx x hx' with h' | rfl
    · have := h.file x h' p hp; omega
    · exact h3 p hp
theorem files_next {ps : List Pr} {j N M : Nat} {p : Pr} (h : ∀ q ∈ ps.take j, q.1.length ≤ N ∧ q.2.length ≤ N) (hp : ps[j]? = some p) (hNM : N ≤ M) (h1 : p.1.length ≤ M) (h2 : p.2.length ≤ M) : ∀ q ∈ ps.take (j + 1), q.1.length ≤ M ∧ q.2.length ≤ M := by
  intro x hx
  rw [List.take_add_one, hp] at hx
  rcases List.mem_append.1 hx with hx | hx
  · have := h x hx; omega
  · simp at hx; subst hx; exact ⟨h1, h2⟩
set_option maxRecDepth 100000 in
set_option maxHeartbeats 8000000 in
theorem great_any (w : World) (a : Option Addr) (c : Nat) (ms : List Mt) (hr : RdMt w a ms) (hsz : MtSz ms) :
    Calls Tryd.prog 9 #[.slice a ms.length c] w (GreatTo ms w) := by
  obtain ⟨n, hnn⟩ : ∃ n, n = ms.length := ⟨_, rfl⟩
  have hnl : n ≤ 4398046511104 := by rw [hnn]; exact hsz.len
  rw [← hnn]
  have HR := Lib.hid hr; have HN := Lib.hid hnn; have HSZ := Lib.hid hsz
  clear hr hnn hsz
  by_cases h40 : n ≤ 40
  · go_enter Tryd.func9, Tryd.ntmps9
    go_wp2_with fail
    go_loopw [3, 10] (fun y x wr => ∃ (k N : Nat), x = .int .i64 k ∧ y = .int .i64 N ∧ k ≤ n ∧ N ≤ k * 140737488355328 + k * 140737488355328 ∧ Hid (Upto (ms.take k) N) ∧ Hid (Below w.heap.size w wr)) (fun _ x _ => n - (intOf x).toNat)
    case atStart => exact ⟨0, 0, rfl, rfl, Nat.zero_le _, Nat.zero_le _, Upto.nil 0, Below.refl _ _⟩
    case round =>
      obtain ⟨k, N, rfl, rfl, hkn, hNb, hup, hbw⟩ := hrel
      by_cases hlt : k < n
      · -- one mount
        obtain ⟨m, hm⟩ : ∃ m, ms[k]? = some m := ⟨_, List.getElem?_eq_getElem (by rw [← HN.out]; exact hlt)⟩
        obtain ⟨rb, o, rfl, _, hcs⟩ := HR.out.below hbw.out (fun e => by rw [e] at hm; cases hm)
        obtain ⟨p0, av, cv, p1, hrf, hsl⟩ := hcs k m hm
        have hmem := List.mem_of_getElem? hm
        have hdl := HSZ.out.dir m hmem
        have hfz := HSZ.out.file m hmem
        obtain ⟨S1, hS1⟩ : ∃ S : ByteArray, S = ⟨m.1.toArray⟩ := ⟨_, rfl⟩
        obtain ⟨nv, hnv⟩ : ∃ nv, nv = m.2.length := ⟨_, rfl⟩
        have hz : S1.size = m.1.length := by rw [hS1, str_size]
        have hz1 : S1.size ≤ 140737488351232 := by omega
        have hnvl : nv ≤ 4398046511104 := by rw [hnv]; exact hfz.len
        unfold strV at p0
        rw [← hS1] at p0; rw [← hnv] at p1
        obtain ⟨w2, hw2, hb2, hfx, _, _⟩ := new_two wr (.string S1) (.slice av nv cv) 36
        have f0 := cell_of_heap hfx 0
        have f1 := cell_of_heap hfx 1
        have HB2 := Lib.hid (hbw.out.trans (hb2.mono hbw.out.size))
        have HRF := Lib.hid (hrf.below hb2); have HM := Lib.hid hm; have HZ := Lib.hid hz; have HNV := Lib.hid hnv; have HFZ := Lib.hid hfz
        clear hcs hfx hm hb2 hnv hS1 hz hrf hsl hmem hdl hfz
        go_wp2_with fail
        clear f0 f1
        go_loopw [3, 28] (fun y x wv => ∃ (j M : Nat), x = .int .i64 j ∧ y = .int .i64 M ∧ j ≤ nv ∧ M ≤ k * 140737488355328 + k * 140737488355328 + 140737488355328 + 140737488355328 ∧ N + (S1.size + nv) ≤ M ∧ Hid (∀ p ∈ m.2.take j, p.1.length ≤ M ∧ p.2.length ≤ M) ∧ Hid (Below w.heap.size w wv) ∧ Hid (Below w2.heap.size w2 wv)) (fun _ x _ => nv - (intOf x).toNat)
        case atStart => exact ⟨0, N + (S1.size + nv), rfl, by go_num, Nat.zero_le _, by omega, Nat.le_refl _, (fun p hp => by cases hp), HB2, Below.refl _ _⟩
        case round =>
          obtain ⟨j, M, rfl, rfl, hjn, hMb, hNM, hfu, hbv, hbv2⟩ := hrel
          by_cases hlt2 : j < nv
          · -- one file
            obtain ⟨p, hp⟩ : ∃ p, m.2[j]? = some p := ⟨_, List.getElem?_eq_getElem (by rw [← HNV.out]; exact hlt2)⟩
            obtain ⟨rb2, o2, rfl, _, hcs2⟩ := HRF.out.below hbv2.out (fun e => by rw [e] at hp; cases hp)
            obtain ⟨q0, q1⟩ := hcs2 j p hp
            obtain ⟨hp1, hp2⟩ := HFZ.out.each p (List.mem_of_getElem? hp)
            obtain ⟨P1, hP1⟩ : ∃ S : ByteArray, S = ⟨p.1.toArray⟩ := ⟨_, rfl⟩
            obtain ⟨P2, hP2⟩ : ∃ S : ByteArray, S = ⟨p.2.toArray⟩ := ⟨_, rfl⟩
            have hy1 : P1.size = p.1.length := by rw [hP1, str_size]
            have hy2 : P2.size = p.2.length := by rw [hP2, str_size]
            have hy3 : P1.size ≤ 140737488351232 := by omega
            have hy4 : P2.size ≤ 140737488351232 := by omega
            unfold strV at q0 q1
            rw [← hP1] at q0; rw [← hP2] at q1
            obtain ⟨w3, hw3, hb3, hgx, _, _⟩ := new_two wr (.string P1) (.string P2) 47
            have g0 := cell_of_heap hgx 0
            have g1 := cell_of_heap hgx 1
            have HB3 := Lib.hid (hbv2.out.trans (hb3.mono hbv2.out.size))
            have HP := Lib.hid hp; have HY := Lib.hid (And.intro hy1 hy2)
            clear hcs2 hgx hp hb3 hP1 hP2 hy1 hy2 hp1 hp2
            have HB4 := Lib.hid (hbv.out.trans ((show Below wr.heap.size wr w3 by rw [← hw3]; exact (Below.refl _ _).alloc (Nat.le_refl _) _).mono hbv.out.size))
            by_cases hbig : 131072 < M + (P1.size + P2.size)
            · have hbig2 : (131072 : Int) < (M : Int) + ((P1.size : Int) + (P2.size : Int)) := by omega
              go_wp2_with fail
              go_ret
              exact ⟨true, rfl, (fun h => by cases h), HB4.out⟩
            · have hbig2 : ¬ (131072 : Int) < (M : Int) + ((P1.size : Int) + (P2.size : Int)) := by omega
              have HFU := Lib.hid (files_next hfu.out HP.out (show M ≤ M + (P1.size + P2.size) by omega) (by have := HY.out.1; omega) (by have := HY.out.2; omega))
              go_wp2_with fail
              go_roundw
              case rel => exact ⟨j + 1, M + (P1.size + P2.size), by go_num, by go_num, hlt2, by omega, by omega, HFU, HB4, HB3⟩
              case measure => simp [intOf]; omega
          · have HUP := Lib.hid (hup.out.next HM.out (show N ≤ M by omega) (by have := HZ.out; omega) (by have := HNV.out; omega) (by
              have := hfu.out
              rwa [List.take_of_length_le (by rw [← HNV.out]; omega)] at this))
            go_wp2_with fail
            go_roundw
            case rel => exact ⟨k + 1, M, by go_num, rfl, hlt, by omega, HUP, hbv⟩
            case measure => simp [intOf]; omega
      · have hup2 := hup.out
        rw [List.take_of_length_le (by rw [← HN.out]; omega)] at hup2
        have HUP := Lib.hid hup2
        clear hup2
        go_wp2_with fail
        go_ret
        refine ⟨_, rfl, fun h => ?_, hbw.out⟩
        have hbig : ¬ 131072 < N := by
          have := (Bool.or_eq_false_iff.1 h).2
          have := of_decide_eq_false this
          omega
        exact ⟨by rw [← HN.out]; exact h40, fun m hm => by have := HUP.out.dir m hm; omega, fun m hm => by have := HUP.out.files m hm; omega, fun m hm p hp => by have := HUP.out.file m hm p hp; omega⟩
  · go_enter Tryd.func9, Tryd.ntmps9
    go_wp2_with fail
    go_loopw [3, 10] (fun y x wr => ∃ (k : Nat) (N : Int), x = .int .i64 k ∧ y = .int .i64 N ∧ k ≤ n ∧ Hid (Below w.heap.size w wr)) (fun _ x _ => n - (intOf x).toNat)
    case atStart => exact ⟨0, 0, rfl, rfl, Nat.zero_le _, Below.refl _ _⟩
    case round =>
      obtain ⟨k, N, rfl, rfl, hkn, hbw⟩ := hrel
      by_cases hlt : k < n
      · -- one mount
        obtain ⟨m, hm⟩ : ∃ m, ms[k]? = some m := ⟨_, List.getElem?_eq_getElem (by rw [← HN.out]; exact hlt)⟩
        obtain ⟨rb, o, rfl, _, hcs⟩ := HR.out.below hbw.out (fun e => by rw [e] at hm; cases hm)
        obtain ⟨p0, av, cv, p1, hrf, hsl⟩ := hcs k m hm
        have hmem := List.mem_of_getElem? hm
        have hdl := HSZ.out.dir m hmem
        have hfz := HSZ.out.file m hmem
        obtain ⟨S1, hS1⟩ : ∃ S : ByteArray, S = ⟨m.1.toArray⟩ := ⟨_, rfl⟩
        obtain ⟨nv, hnv⟩ : ∃ nv, nv = m.2.length := ⟨_, rfl⟩
        have hz : S1.size = m.1.length := by rw [hS1, str_size]
        have hz1 : S1.size ≤ 140737488351232 := by omega
        have hnvl : nv ≤ 4398046511104 := by rw [hnv]; exact hfz.len
        unfold strV at p0
        rw [← hS1] at p0; rw [← hnv] at p1
        obtain ⟨w2, hw2, hb2, hfx, _, _⟩ := new_two wr (.string S1) (.slice av nv cv) 36
        have f0 := cell_of_heap hfx 0
        have f1 := cell_of_heap hfx 1
        have HB2 := Lib.hid (hbw.out.trans (hb2.mono hbw.out.size))
        have HRF := Lib.hid (hrf.below hb2); have HM := Lib.hid hm; have HZ := Lib.hid hz; have HNV := Lib.hid hnv; have HFZ := Lib.hid hfz
        clear hcs hfx hm hb2 hnv hS1 hz hrf hsl hmem hdl hfz
        go_wp2_with fail
        clear f0 f1
        go_loopw [3, 28] (fun y x wv => ∃ (j : Nat) (M : Int), x = .int .i64 j ∧ y = .int .i64 M ∧ j ≤ nv ∧ Hid (Below w.heap.size w wv) ∧ Hid (Below w2.heap.size w2 wv)) (fun _ x _ => nv - (intOf x).toNat)
        case atStart => exact ⟨0, _, rfl, rfl, Nat.zero_le _, HB2, Below.refl _ _⟩
        case round =>
          obtain ⟨j, M, rfl, rfl, hjn, hbv, hbv2⟩ := hrel
          by_cases hlt2 : j < nv
          · -- one file
            obtain ⟨p, hp⟩ : ∃ p, m.2[j]? = some p := ⟨_, List.getElem?_eq_getElem (by rw [← HNV.out]; exact hlt2)⟩
            obtain ⟨rb2, o2, rfl, _, hcs2⟩ := HRF.out.below hbv2.out (fun e => by rw [e] at hp; cases hp)
            obtain ⟨q0, q1⟩ := hcs2 j p hp
            obtain ⟨hp1, hp2⟩ := HFZ.out.each p (List.mem_of_getElem? hp)
            obtain ⟨P1, hP1⟩ : ∃ S : ByteArray, S = ⟨p.1.toArray⟩ := ⟨_, rfl⟩
            obtain ⟨P2, hP2⟩ : ∃ S : ByteArray, S = ⟨p.2.toArray⟩ := ⟨_, rfl⟩
            have hy1 : P1.size = p.1.length := by rw [hP1, str_size]
            have hy2 : P2.size = p.2.length := by rw [hP2, str_size]
            have hy3 : P1.size ≤ 140737488351232 := by omega
            have hy4 : P2.size ≤ 140737488351232 := by omega
            unfold strV at q0 q1
            rw [← hP1] at q0; rw [← hP2] at q1
            obtain ⟨w3, hw3, hb3, hgx, _, _⟩ := new_two wr (.string P1) (.string P2) 47
            have g0 := cell_of_heap hgx 0
            have g1 := cell_of_heap hgx 1
            have HB3 := Lib.hid (hbv2.out.trans (hb3.mono hbv2.out.size))
            have HP := Lib.hid hp; have HY := Lib.hid (And.intro hy1 hy2)
            clear hcs2 hgx hp hb3 hP1 hP2 hy1 hy2 hp1 hp2
            have HB4 := Lib.hid (hbv.out.trans ((show Below wr.heap.size wr w3 by rw [← hw3]; exact (Below.refl _ _).alloc (Nat.le_refl _) _).mono hbv.out.size))
            go_wp2_with fail
            · go_ret
              exact ⟨true, rfl, (fun h => by cases h), HB4.out⟩
            · go_roundw
              case rel => exact ⟨j + 1, _, by go_num, rfl, hlt2, HB4, HB3⟩
              case measure => simp [intOf]; omega
          · go_wp2_with fail
            go_roundw
            case rel => exact ⟨k + 1, M, by go_num, rfl, hlt, hbv⟩
            case measure => simp [intOf]; omega
      · go_wp2_with fail
        go_ret
        exact ⟨true, rfl, (fun h => by cases h), hbw.out⟩
end Go.Proofs.YtknokfhmkhdieaaDoor
