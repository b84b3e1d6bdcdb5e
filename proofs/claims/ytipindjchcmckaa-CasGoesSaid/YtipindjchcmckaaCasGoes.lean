/- DERIVED. The walk of CasGoes. -/
import Derived.Test.YtipindjchcmckaaCasGo
import Derived.Test.YtipindjchcmckaaOverB
import Derived.Deep.RegionHeld3
namespace Go.Proofs.Ytipindjchcmckaa
open Go.RowKit Go.Shelf
set_option linter.unusedVariables false
attribute [local go_sem] Oper.semAt_some

theorem below_to_drew (w : World) : Below w.heap.size w w.drew := ⟨rfl, rfl, rfl, Nat.le_refl _, fun _ _ => rfl⟩
theorem one_cell {w : World} {R : Nat} {u : Value} {T : TypeId} (x : Value) (h : w.heap[R]? = some (.cells #[u] T (0, 0))) : (w.setCell ⟨R, 0, none⟩ x).cell? ⟨R, 0, none⟩ = some x := cell_of_heap (heap_setCell_here (i := 0) x h) 0
theorem enters_over : ∀ args w, (callFunc 43 args).run Try.prog w = .ok (.enter 43 args) w := enters_of Try.func43 (by kernel_rfl) rfl
theorem kpS_b {g : Nat} {w : World} (hg : g < w.heap.size) (W : World) (l : Nat) (o o' : Obj) (hl : w.heap.size ≤ l) (h : W.heap[l]? = some o) (_ : o.isCells = false) (_ : o.isWalk = false) : KpS [g] W (W.putObj l o') := by
  intro k hk
  obtain rfl : k = g := by simpa using hk
  exact World.putObj_heap_other (by omega)
theorem CasWith.more {B : Nat} {w0 w w' : World} {P : Nat} {wd : Int} {ps : List Pr} {F : List Nat} (h : CasWith B w0 P wd ps F w) (hb : Below w.heap.size w w') (N : List Nat) (hN : ∀ k ∈ N, w.heap.size ≤ k ∧ k < w'.heap.size) : CasWith B w0 P wd ps (N ++ F) w' := by
  obtain ⟨S, v, h1, h2, h3, h4, h5⟩ := h
  refine ⟨S, v, h1.below hb, fun k hk => ⟨(h2 k hk).1, fun hk' => ?_⟩, fun k hk => ?_, h4.trans (hb.mono h5), Nat.le_trans h5 hb.size⟩
  · rcases List.mem_append.1 hk' with h | h
    · have := h1.lt k hk; have := (hN k h).1; omega
    · exact (h2 k hk).2 h
  · rcases List.mem_append.1 hk with h | h
    · exact (hN k h).2
    · exact Nat.lt_of_lt_of_le (h3 k h) hb.size
theorem GoesInv.more {B : Nat} {w0 W W' : World} {P Q T : Nat} {wd : Int} {snap ps : List Pr} {F : List Nat} (h : GoesInv B w0 P Q T wd snap ps F W) (hb : Below W.heap.size W W') (N : List Nat) (hN : ∀ k ∈ N, W.heap.size ≤ k ∧ k < W'.heap.size) : GoesInv B w0 P Q T wd snap ps (N ++ F) W' :=
  ⟨h.st.more hb N hN, h.sub, h.o.below hb, ⟨List.mem_append_right _ h.inF.1, List.mem_append_right _ h.inF.2⟩⟩
theorem goes_start {B : Nat} {w0 w w1 w2 : World} {wd : Int} (hb : Below B w0 w) (hB : B ≤ w.heap.size)
    (e1 : w1 = (w.alloc (.cells #[.slice none 0 0] 57)).alloc (.cells #[.int .i64 wd, .pointer (some ⟨w.heap.size, 0, none⟩)] 49))
    (e2 : w2 = (w1.alloc (.cells #[.slice none 0 0] 57)).alloc (.cells #[.int .i64 wd, .pointer (some ⟨w1.heap.size, 0, none⟩)] 49)) : GoesInv B w0 (w.heap.size + 1) (w1.heap.size + 1) w1.heap.size wd [] [] [w1.heap.size + 1, w1.heap.size] w2 := by
  have s1 := st_new w wd
  have s2 := st_new w1 wd
  rw [← e1] at s1
  rw [← e2] at s2
  have b1 : Below w.heap.size w w1 := by rw [e1]; exact ((Below.refl _ w).alloc (Nat.le_refl _) _).alloc (by simp) _
  have b2 : Below w1.heap.size w1 w2 := by rw [e2]; exact ((Below.refl _ w1).alloc (Nat.le_refl _) _).alloc (by simp) _
  have hz : w1.heap.size = w.heap.size + 2 := by rw [e1]; simp
  have hz2 : w2.heap.size = w1.heap.size + 2 := by rw [e2]; simp
  have b3 := b1.trans (b2.mono b1.size)
  refine ⟨⟨_, _, s1.below b2, ?_, ?_, hb.trans (b3.mono hB), Nat.le_trans hB b3.size⟩, by simp, s2, by simp⟩
  · intro k hk
    simp [stFoot, shFoot, Value.ownBlock] at hk ⊢
    omega
  · intro k hk
    simp at hk
    omega
theorem CasWith.keyed {B : Nat} {w0 w : World} {P : Nat} {wd : Int} {ps : List Pr} {F : List Nat} (h : CasWith B w0 P wd ps F w) : ∀ p ∈ ps, p.1 = casKey wd p.2 := by
  obtain ⟨S, v, h1, _⟩ := h
  exact h1.keys
theorem casKey_len (wd : Int) (b : List UInt8) : (casKey wd b).length = 13 := by simp [casKey, mixText]
theorem cput_small {wd : Int} {ps ps' : List Pr} {b key : List UInt8} {err : Int} (h : CputRel wd ps b key err ps') (hp : ∀ p ∈ ps, p.2.length ≤ 65536) : ∀ p ∈ ps', p.2.length ≤ 65536 := by
  rcases h with ⟨_, _, _, rfl⟩ | ⟨_, _, _, _, rfl⟩ | ⟨_, h1, _, h4, _⟩
  · exact hp
  · exact hp
  · intro p hp'
    rcases (h4 p).1 hp' with rfl | h
    · exact h1
    · exact hp p h
def lastK {ps : List Pr} (pre : List { p : Pr // p ∈ ps }) : List UInt8 := match pre.getLast? with | none => [] | some p => p.1.1
theorem lastK_snoc {ps : List Pr} (pre : List { p : Pr // p ∈ ps }) (x : { p : Pr // p ∈ ps }) : lastK (pre ++ [x]) = x.1.1 := by simp [lastK]
/-- What holds between two rounds. -/
def GoesI (B : Nat) (w0 : World) (P T Bs Bi : Nat) (wd : Int) (ps : List Pr) (F : List Nat) (pre : List { p : Pr // p ∈ ps }) (W : World) : Prop :=
  ∃ ps', ps'.length ≤ 60 + pre.length ∧ GoesInv B w0 P (T + 1) T wd ps ps' F W ∧ W.heap[Bi]? = some (.cells #[.int .i64 pre.length] 3 (0, 0)) ∧ W.heap[Bi + 1]? = some (.cells #[.string ⟨(lastK pre).toArray⟩] 9 (0, 0)) ∧ W.heap[Bs]? = some (.cells #[.pointer (some ⟨P, 0, none⟩)] 25 (0, 0))
/-- A round has answered no: the keys did not rise. -/
def GoesX {ps : List Pr} (_ : Code) (pre : List { p : Pr // p ∈ ps }) (_ : World) : Prop := ∃ init y x, pre = init ++ [y, x] ∧ Op.bytesLess y.1.1 x.1.1 = false
theorem goesI_own {B B0 : Nat} {w0 : World} {P T Bs Bi : Nat} {wd : Int} {ps : List Pr} {F : List Nat} (hB : B ≤ B0) (hF : ∀ k ∈ F, k < B0) (h1 : Bi ∈ F) (h2 : Bi + 1 ∈ F) (h3 : Bs ∈ F) : OwnFrom B0 (GoesI B w0 P T Bs Bi wd ps F) := by
  rintro pre W W' row ⟨ps', q1, q2, q3, q4, q5⟩ hg hr
  have hk : ∀ k ∈ F, W'.heap[k]? = W.heap[k]? := fun k hk => hg.block k (q2.st.ltF k hk) (fun e => by have := (hr k e.symm).1; have := hF k hk; omega)
  refine ⟨ps', q1, q2.same (q2.st.other hg (fun r e => ⟨by have := (hr r e).1; omega, (hr r e).2⟩)) (fun p hp => hp) ⟨hk _ q2.inF.1, hk _ q2.inF.2⟩, (hk _ h1).trans q3, (hk _ h2).trans q4, (hk _ h3).trans q5⟩
theorem goes_round {B : Nat} {w0 W2 W' : World} {P T Bs Bi : Nat} {wd : Int} {ps ps' : List Pr} {F : List Nat} {pre : List { p : Pr // p ∈ ps }} (x : { p : Pr // p ∈ ps }) (h : GoesInv B w0 P (T + 1) T wd ps ps' F W2)
    (hi : W2.heap[Bi]? = some (.cells #[.int .i64 pre.length] 3 (0, 0))) (hl : W2.heap[Bi + 1]? = some (.cells #[.string ⟨(lastK pre).toArray⟩] 9 (0, 0))) (hs : W2.heap[Bs]? = some (.cells #[.pointer (some ⟨P, 0, none⟩)] 25 (0, 0)))
    (hn : ps'.length ≤ 61 + pre.length) (hB : B ≤ Bi) (hBs : Bs < Bi) (hT : T + 1 < Bi) (h1 : Bi ∈ F) (h2 : Bi + 1 ∈ F) (hW : W' = (W2.setCell ⟨Bi + 1, 0, none⟩ (.string ⟨x.1.1.toArray⟩)).setCell ⟨Bi, 0, none⟩ (.int .i64 ((pre.length : Int) + 1))) :
    GoesI B w0 P T Bs Bi wd ps F (pre ++ [x]) W' ∧ KeepsOthers W2 W' ∧ ∀ k, k ≠ Bi → k ≠ Bi + 1 → W'.heap[k]? = W2.heap[k]? := by
  have hk : ∀ k, k ≠ Bi → k ≠ Bi + 1 → W'.heap[k]? = W2.heap[k]? := by
    intro k a b
    rw [hW]
    exact (Below.heap_setCell _ _ _ k a).trans (Below.heap_setCell _ _ _ k b)
  have hst : CasWith B w0 P wd ps' F W' := by rw [hW]; exact (h.st.wrote h2 (by omega) _).wrote h1 hB _
  refine ⟨⟨ps', by simp; omega, h.same hst (fun p hp => hp) ⟨hk _ (by omega) (by omega), hk _ (by omega) (by omega)⟩, ?_, ?_, (hk Bs (by omega) (by omega)).trans hs⟩, by rw [hW]; exact (KeepsOthers.setCell _ _ _).trans (KeepsOthers.setCell _ _ _), hk⟩
  · have := heap_setCell_here (i := 0) (.int .i64 ((pre.length : Int) + 1)) ((Below.heap_setCell W2 ⟨Bi + 1, 0, none⟩ (.string ⟨x.1.1.toArray⟩) Bi (by simp)).trans hi)
    rw [hW, this, List.length_append]
    rfl
  · rw [hW, lastK_snoc]
    exact (Below.heap_setCell _ _ _ (Bi + 1) (by simp)).trans (heap_setCell_here (i := 0) (.string ⟨x.1.1.toArray⟩) hl)
theorem goesX_not {ps : List Pr} {c : Code} {pre : List { p : Pr // p ∈ ps }} {W : World} (hs : Srt ps) (hp : pre <+: ps.attach) (h : GoesX c pre W) : False := by
  obtain ⟨init, y, x, rfl, hx⟩ := h
  obtain ⟨r, hr⟩ := hp
  have e : List.map Subtype.val (init ++ [y, x] ++ r) = ps := by
    have := congrArg (List.map Subtype.val) hr
    rwa [List.attach_map_subtype_val] at this
  have h1 : ps[init.length]? = some y.1 := (congrArg (fun l : List Pr => l[init.length]?) e.symm).trans (by simp)
  have h2 : ps[init.length + 1]? = some x.1 := (congrArg (fun l : List Pr => l[init.length + 1]?) e.symm).trans (by simp)
  have := hs.lt (Nat.lt_succ_self _) h1 h2
  rw [hx] at this; cases this
set_option maxRecDepth 100000 in
set_option maxHeartbeats 4000000 in
theorem goes_any (w : World) (wd : Int) (a : Option Addr) (c : Nat) (ls : List (List UInt8)) (ha : RdStrs w a ls) (hl : ls.length ≤ 140737488351232) (hr : ∀ r ∈ ls, r.length ≤ 140737488351232)
    (b : Option Addr) (d : Nat) (ms : List (List UInt8)) (hb : RdStrs w b ms) (hml : ms.length ≤ 140737488351232) (hmr : ∀ r ∈ ms, r.length ≤ 140737488351232) :
    Calls Try.prog 5 #[.int .i64 wd, .slice a ls.length c, .slice b ms.length d] w fun e w' => e = .returned (.bool true) ∧ Below w.heap.size w w' := by
  have HA := Lib.hid ha; have HR := Lib.hid hr; have HB := Lib.hid hb; have HMR := Lib.hid hmr; clear ha hr hb hmr
  obtain ⟨w0, hw0⟩ : ∃ w0, w0 = (w.alloc (.cells #[.slice b ms.length d] 22)).alloc (.cells #[.bool false] 4) := ⟨_, rfl⟩
  have hb0 : Below w.heap.size w w0 := by rw [hw0]; exact ((Below.refl _ w).alloc (Nat.le_refl _) _).alloc (by simp) _
  have hz0 : w0.heap.size = w.heap.size + 2 := by rw [hw0]; simp
  have hm0 : w0.heap[w.heap.size]? = some (.cells #[.slice b ms.length d] 22 (0, 0)) := by rw [hw0]; exact (Below.heap_alloc _ _ _ (by simp)).trans (heap_alloc_new w _)
  have hr0 : w0.heap[w.heap.size + 1]? = some (.cells #[.bool false] 4 (0, 0)) := by
    rw [hw0]
    have := heap_alloc_new (w.alloc (.cells #[.slice b ms.length d] 22)) (.cells #[.bool false] 4)
    rwa [World.size_alloc] at this
  have HB0 := Lib.hid hb0; have HZ0 := Lib.hid hz0; have HR0 := Lib.hid hr0; have HM0 := Lib.hid hm0; have HW0 := Lib.hid hw0
  have HCA := Lib.hid (calive_any w0)
  rw [hw0] at HCA
  clear hb0 hz0 hr0 hm0 hw0
  refine calls_of_wp_marks Try.func5 rfl ?_
  simp only [Try.ntmps5, List.size_toArray, List.length_cons, List.length_nil, Nat.reduceAdd, Nat.reduceSub, Array.replicate_succ, Array.replicate_zero, List.push_toArray, List.append_toArray, List.nil_append, List.cons_append]
  go_wp2_with fail
  refine HCA.out.mono ?_
  rintro e w1 ⟨rfl, hb1⟩
  rw [← HW0.out, HZ0.out] at hb1
  have HB1 := Lib.hid hb1
  have HBW1 := Lib.hid (HB0.out.trans (hb1.mono (by omega)))
  have hs1 : w.heap.size + 2 ≤ w1.heap.size := by have := hb1.size; rw [HZ0.out] at this; exact this
  have HRZ1 := Lib.hid ((hb1.block (w.heap.size + 1) (by omega)).trans HR0.out)
  have HMZ1 := Lib.hid ((hb1.block w.heap.size (by omega)).trans HM0.out)
  have HG := Lib.hid (cgreat_any w1 a c ls (HA.out.below HBW1.out) hl HR.out)
  have HG2 := Lib.hid (cgreat_any w1 b d ms (HB.out.below HBW1.out) hml HMR.out)
  clear hb1 HCA HW0
  go_wp2_with fail
  refine HG.out.mono ?_
  rintro e w2 ⟨g, rfl, hg, rfl⟩
  have r0 := cell_of_heap HRZ1.out 0
  have rf := frozen_of_heap HRZ1.out
  have z0 := cell_of_heap HMZ1.out 0
  have k0 := one_cell (.bool true) HRZ1.out
  cases g
  · obtain ⟨hl60, hrs⟩ := hg rfl
    have HRS := Lib.hid hrs; clear hg hrs HG
    go_wp2_with fail
    refine HG2.out.mono ?_
    rintro e w2 ⟨g, rfl, hg, rfl⟩
    cases g
    · obtain ⟨hm60, hms⟩ := hg rfl
      have HMS := Lib.hid hms; clear hg hms HG2 r0 rf z0 k0
      go_wp2_with fail
      refine (cnew_any w1 wd).mono ?_
      rintro e w3 ⟨rfl, e3⟩
      have E3 := Lib.hid e3; clear e3
      go_wp2_with fail
      refine (cnew_any w3 wd).mono ?_
      rintro e w4 ⟨rfl, e4⟩
      have T0 := Lib.hid (goes_start HB1.out hs1 E3.out e4)
      clear e4 E3
      obtain ⟨P, hP⟩ : ∃ P, P = w1.heap.size + 1 := ⟨_, rfl⟩
      obtain ⟨T, hT⟩ : ∃ T, T = w3.heap.size := ⟨_, rfl⟩
      rw [← hP, ← hT] at T0 ⊢
      clear hP hT
      have G5 := T0.out.more (W' := w4.alloc (.cells #[.pointer (some ⟨P, 0, none⟩)] 25)) ((Below.refl _ w4).alloc (Nat.le_refl _) _) [w4.heap.size] (by intro k hk; simp at hk; simp; omega)
      have hbs : (w4.alloc (.cells #[.pointer (some ⟨P, 0, none⟩)] 25)).heap[w4.heap.size]? = _ := heap_alloc_new w4 _
      have HG5 := Lib.hid G5; have HBS := Lib.hid hbs; clear G5 hbs T0
      go_wp2_with fail
      obtain ⟨Bs, hBs⟩ : ∃ Bs, Bs = w4.heap.size := ⟨_, rfl⟩
      rw [← hBs] at HG5 HBS ⊢
      clear hBs
      generalize w4.alloc (.cells #[.pointer (some ⟨P, 0, none⟩)] 25) = w5 at HG5 HBS ⊢
      go_loopw [32] (fun i wr => ∃ (k : Nat) (ps : List Pr), k ≤ ls.length ∧ ps.length ≤ k ∧ i = .int .i64 k ∧ Hid (GoesInv (w.heap.size + 2) w0 P (T + 1) T wd [] ps [Bs, T + 1, T] wr) ∧ Hid (wr.heap[Bs]? = some (.cells #[.pointer (some ⟨P, 0, none⟩)] 25 (0, 0))) ∧ Hid (∀ p ∈ ps, p.2.length ≤ 65536)) (fun i _ => ls.length - (intOf i).toNat)
      case atStart => exact ⟨0, [], Nat.zero_le _, Nat.le_refl _, rfl, HG5.out, HBS.out, by intro p hp; cases hp⟩
      case round =>
        obtain ⟨k, ps, hk, hps, rfl, HI, HS, HLN⟩ := hrel
        have s0 := cell_of_heap HS.out 0
        by_cases hlt : k < ls.length
        · obtain ⟨b0, o0, rfl, hc⟩ := (HA.out.below ((HB0.out.trans (HI.out.st.bel.1.mono (by omega))))) (by intro e; rw [e] at hlt; exact absurd hlt (Nat.not_lt_zero _))
          obtain ⟨l, hl'⟩ : ∃ l, ls[k]? = some l := ⟨_, List.getElem?_eq_getElem hlt⟩
          have h1 := hc k l hl'
          have hll := HRS.out l (List.mem_of_getElem? hl')
          have HPU := Lib.hid (with_put2 HI.out.st (by omega) l (by omega))
          clear hc hl'
          go_wp2_with fail
          refine HPU.out.mono ?_
          rintro e w6 ⟨key1, err1, ps', rfl, hr1, hst, hkeep, hothers⟩
          have H6 := Lib.hid (HI.out.same hst (cput_sub hr1) ⟨hkeep _ (by simp), hkeep _ (by simp)⟩)
          have HS6 := Lib.hid ((hkeep Bs (by simp)).trans HS.out)
          have hpl := hr1.len
          have HLN6 := Lib.hid (cput_small hr1 HLN.out)
          clear hst hkeep hothers hr1 HPU
          go_wp2_with fail
          go_roundw
          case rel => exact ⟨k + 1, ps', by omega, by omega, by go_num, H6.out, HS6.out, HLN6.out⟩
          case measure => simp [intOf]; omega
        · obtain ⟨S, v, hsat, _⟩ := id HI.out.st
          have HLE := Lib.hid (clen_any wr P S v wd ps hsat)
          clear hsat
          have hSl := lt_of_heap HS.out
          go_wp2_with fail
          refine HLE.out.mono ?_
          rintro e w7 ⟨rfl, rfl⟩
          go_wp2_with fail
          obtain ⟨wl, hwl⟩ : ∃ wl, wl = (wr.alloc (.cells #[.int .i64 0] 3)).alloc (.cells #[.string ⟨#[]⟩] 9) := ⟨_, rfl⟩
          have hbl : Below wr.heap.size wr wl := by rw [hwl]; exact ((Below.refl _ wr).alloc (Nat.le_refl _) _).alloc (by simp) _
          have hzl : wl.heap.size = wr.heap.size + 2 := by rw [hwl]; simp
          have hbi : wl.heap[wr.heap.size]? = some (.cells #[.int .i64 0] 3 (0, 0)) := by rw [hwl]; exact (Below.heap_alloc _ _ _ (by simp)).trans (heap_alloc_new wr _)
          have hbll : wl.heap[wr.heap.size + 1]? = some (.cells #[.string ⟨#[]⟩] 9 (0, 0)) := by
            rw [hwl]
            have := heap_alloc_new (wr.alloc (.cells #[.int .i64 0] 3)) (.cells #[.string ⟨#[]⟩] 9)
            rwa [World.size_alloc] at this
          have hIl := HI.out.more hbl [wr.heap.size + 1, wr.heap.size] (by intro k hk; simp at hk; omega)
          have hsl := (hbl.block Bs hSl).trans HS.out
          rw [← hwl]
          obtain ⟨Bi, hBi⟩ : ∃ Bi, Bi = wr.heap.size := ⟨_, rfl⟩
          rw [← hBi] at hbi hbll hIl ⊢
          have HBI := Lib.hid hbi; have HBL := Lib.hid hbll; have HIL := Lib.hid hIl; have HSL := Lib.hid hsl
          obtain ⟨S, v, hsat, _⟩ := id HIL.out.st
          have HAL := Lib.hid (call_any wl P S v wd ps hsat (by omega))
          have hge : w.heap.size + 2 ≤ Bi := by rw [hBi]; exact HI.out.st.bel.2.1
          have hBsi : Bs < Bi := by rw [hBi]; exact hSl
          have hTi : T + 1 < Bi := by rw [hBi]; exact HI.out.st.ltF _ (by simp)
          clear hsat hbi hbll hIl hsl hbl hzl hwl hBi s0 HLE
          refine HAL.out.mono ?_
          rintro e w8 ⟨C, g, a', c', rfl, y1, y2, y3, y4, y5, y6, y7⟩
          have H8 := Lib.hid (HIL.out.more y7 [C, g] (by intro k hk; simp at hk; rcases hk with rfl | rfl; exact ⟨y4, lt_of_heap y1⟩; exact ⟨y5, y6⟩))
          have I8 := Lib.hid ((y7.block Bi (lt_of_heap HBI.out)).trans HBI.out)
          have L8 := Lib.hid ((y7.block (Bi + 1) (lt_of_heap HBL.out)).trans HBL.out)
          have S8 := Lib.hid ((y7.block Bs (lt_of_heap HSL.out)).trans HSL.out)
          have Y1 := Lib.hid y1; have Y2 := Lib.hid y2; have Y3 := Lib.hid y3
          have hgi : Bi + 1 < g := Nat.lt_of_lt_of_le (lt_of_heap HBL.out) y5
          clear y1 y2 y3 y4 y5 y7 HAL
          go_wp2_with fail
          have hps60 : ps.length ≤ 60 := by omega
          refine (wpIn_wide (n := 3)).1 ?_
          refine wpIn_rangeFunc_ownF rfl (by omega) (gf := 43) (lb := #[.pointer (some ⟨C, 0, none⟩)]) rfl trivial enters_over
            (over_stops_of Subtype.val ps.attach 2 C g c' a' ps w8 (by omega) (by omega) Y1.out Y2.out Y3.out (List.attach_map_subtype_val _)) (fun h k => KpS.trans h k) (kpS_b y6) (Below.refl _ _) (fun _ => rfl)
            (GoesI (w.heap.size + 2) w0 P T Bs Bi wd ps ([C, g] ++ ([Bi + 1, Bi] ++ [Bs, T + 1, T]))) GoesX
            (goesI_own H8.out.st.bel.2.1 H8.out.st.ltF (by simp) (by simp) (by simp)) (fun _ _ _ _ _ hs _ _ => hs) ⟨ps, by simp; omega, ⟨H8.out.st, fun p hp => hp, H8.out.o, H8.out.inF⟩, I8.out, L8.out, S8.out⟩
            (fun x => { tmps := #[.int .i64 wd, .slice a ls.length c, .slice b ms.length d, undef, undef, .pointer (some ⟨w.heap.size, 0, none⟩), .pointer (some ⟨w.heap.size + 1, 0, none⟩), .pointer (some ⟨Bs, 0, none⟩), .pointer (some ⟨T + 1, 0, none⟩), undef, u10, .int .i64 ps.length, .pointer (some ⟨Bi, 0, none⟩), .pointer (some ⟨Bi + 1, 0, none⟩), .string ⟨x.1.1.toArray⟩, .string ⟨x.1.2.toArray⟩, undef, undef, .bool true, .bool false, .slice a ls.length c, .bool false, .bool false, .slice b ms.length d, .bool false, .bool false, .int .i64 wd, .pointer (some ⟨P, 0, none⟩), .int .i64 wd, .pointer (some ⟨T + 1, 0, none⟩), .slice a ls.length c, .int .i64 ls.length, .int .i64 k, .bool false, u34, u35, u36, u37, u38, u39, .pointer (some ⟨P, 0, none⟩), .int .i64 ps.length, .pointer (some ⟨P, 0, none⟩), .func (.func 43) #[] #[.pointer (some ⟨C, 0, none⟩)], .string ⟨x.1.1.toArray⟩, .string ⟨x.1.2.toArray⟩, undef, undef, undef, undef, undef, undef, undef, undef, undef, undef, undef, undef, undef, undef, undef, undef, undef, undef, undef, undef, undef, undef, undef, undef, undef, undef, undef, undef, undef, undef, undef, undef, undef, undef, undef, undef, undef, undef, undef, undef, undef, undef, undef, undef, undef, undef], defers := [] }) ?assign ?body ?done ?stop
          case assign =>
            intro l x W K hK
            unfold encP strV
            gi_wp2
            exact hK
          case stop =>
            intro D c pre W _ hp hx _
            exact (goesX_not H8.out.st.bel.2.2 hp hx).elim
          case body =>
            rintro l pre x W ⟨ps', q1, q2, q3, q4, q5⟩ hpre
            have h1n : 1 ≤ 3 - 1 - 1 := by decide
            have hpl : pre.length < 60 := by omega
            have s0 := cell_of_heap q5 0
            have i0 := cell_of_heap q3 0
            have l0 := cell_of_heap q4 0
            have m0 := cell_of_heap ((q2.st.bel.1.block w.heap.size (by omega)).trans HM0.out) 0
            have HGE := Lib.hid (with_get q2.st (by omega) x.1.1)
            have HI := Lib.hid q2; have HBI := Lib.hid q3; have HBL := Lib.hid q4; have HBS := Lib.hid q5
            clear q2 q3 q4 q5
            gi_wp2
            refine ⟨trivial, ?_⟩
            refine (CallsIn.inRound l ((callsIn_wide (n := 0)).2 HGE.out)).mono ?_
            rintro e W1 ⟨val, bb, rfl, g1, g2, hb1⟩
            have hmem : (x.1.1, x.1.2) ∈ ps' := HI.out.sub x.1 x.2
            have H1 := Lib.hid (HI.out.below hb1)
            have I1 := Lib.hid ((hb1.block Bi (lt_of_heap HBI.out)).trans HBI.out)
            have L1 := Lib.hid ((hb1.block (Bi + 1) (lt_of_heap HBL.out)).trans HBL.out)
            have S1 := Lib.hid ((hb1.block Bs (lt_of_heap HBS.out)).trans HBS.out)
            have K1 := Lib.hid (keeps_below hb1)
            have P1 := Lib.hid (fun (k : Nat) (hk : k < W.heap.size) => hb1.block k hk)
            have hGl := HI.out.st.ltF g (by simp)
            cases bb
            · exact absurd hmem ((g2 rfl).2 x.1.2)
            · have hval : val = x.1.2 := by
                have := H1.out.st.bel.2.2.inj (g1 rfl) hmem rfl
                exact (Prod.mk.inj this).2
              subst hval
              have hkey : casKey wd x.1.2 = x.1.1 := (H1.out.st.keyed _ hmem).symm
              have hxl : x.1.2.length ≤ 65536 := HLN.out _ x.2
              have HKE := with_key H1.out.st x.1.2 (by omega)
              rw [hkey] at HKE
              have HKE := Lib.hid HKE
              have hkl : x.1.1.length = 13 := by rw [← hkey]; exact casKey_len _ _
              have s0 := cell_of_heap S1.out 0
              have i0 := cell_of_heap I1.out 0
              have l0 := cell_of_heap L1.out 0
              have m0 := cell_of_heap ((H1.out.st.bel.1.block w.heap.size (by omega)).trans HM0.out) 0
              have r0 := cell_of_heap ((H1.out.st.bel.1.block (w.heap.size + 1) (by omega)).trans HR0.out) 0
              have rf := frozen_of_heap ((H1.out.st.bel.1.block (w.heap.size + 1) (by omega)).trans HR0.out)
              clear hb1 g1 g2 hkey
              cases hrise : Op.bytesLess (lastK pre) x.1.1
              · have hx : ∃ init y, pre = init ++ [y] := by
                  rcases List.eq_nil_or_concat pre with rfl | ⟨init, y, rfl⟩
                  · exfalso
                    rw [show lastK ([] : List { p : Pr // p ∈ ps }) = [] from rfl] at hrise
                    cases hk : x.1.1 with
                    | nil => rw [hk] at hkl; simp at hkl
                    | cons a r => rw [hk] at hrise; simp [Op.bytesLess] at hrise
                  · exact ⟨init, y, by simp⟩
                have hq : (Op.bytesLess x.1.1 (lastK pre) || x.1.1 == lastK pre) = true := by
                  cases hb : Op.bytesLess x.1.1 (lastK pre)
                  · rw [less_total _ _ hb hrise]; simp
                  · rfl
                have HX := Lib.hid hx; have HRI := Lib.hid hrise
                clear hx hrise
                unfold strV
                gi_wp2
                refine ⟨trivial, ?_⟩
                gi_wp2
                obtain ⟨init, y, rfl⟩ := HX.out
                rw [lastK_snoc] at HRI
                exact ⟨K1.out.trans (KeepsOthers.setCell _ _ _), init, y, x, by simp, HRI.out⟩
              · have f1 : Op.bytesLess x.1.1 (lastK pre) = false := less_asymm _ _ hrise
                have f2 : (x.1.1 == lastK pre) = false := by
                  have := less_ne hrise
                  simpa using fun e => this e.symm
                clear hrise
                unfold strV
                gi_wp2
                refine ⟨trivial, ?_⟩
                refine (CallsIn.inRound l ((callsIn_wide (n := 0)).2 HKE.out)).mono ?_
                rintro e W2 ⟨rfl, hb2⟩
                have H2 := Lib.hid (H1.out.below hb2)
                have I2 := Lib.hid ((hb2.block Bi (lt_of_heap I1.out)).trans I1.out)
                have L2 := Lib.hid ((hb2.block (Bi + 1) (lt_of_heap L1.out)).trans L1.out)
                have S2 := Lib.hid ((hb2.block Bs (lt_of_heap S1.out)).trans S1.out)
                have K2 := Lib.hid (K1.out.trans (keeps_below hb2))
                have GR2 := Lib.hid ((hb2.block g (H1.out.st.ltF g (by simp))).trans (P1.out g hGl))
                have s0 := cell_of_heap S2.out 0
                have i0 := cell_of_heap I2.out 0
                have l0 := cell_of_heap L2.out 0
                have m0 := cell_of_heap ((H2.out.st.bel.1.block w.heap.size (by omega)).trans HM0.out) 0
                have r0 := cell_of_heap ((H2.out.st.bel.1.block (w.heap.size + 1) (by omega)).trans HR0.out) 0
                have fi := frozen_of_heap I2.out
                have fl := frozen_of_heap L2.out
                clear hb2 HKE K1 P1 H1 I1 L1 S1 rf
                unfold strV
                by_cases him : pre.length < ms.length
                · obtain ⟨b0, o0, rfl, hc⟩ := (HB.out.below ((HB0.out.trans (H2.out.st.bel.1.mono (by omega))))) (by intro e; rw [e] at him; exact absurd him (Nat.not_lt_zero _))
                  obtain ⟨m, hm'⟩ : ∃ m, ms[pre.length]? = some m := ⟨_, List.getElem?_eq_getElem him⟩
                  have n0 := hc _ m hm'
                  have hml' := HMS.out m (List.mem_of_getElem? hm')
                  have H2D := Lib.hid (H2.out.below (below_to_drew W2))
                  have HPU := Lib.hid (with_put2 H2D.out.st (by omega) m (by omega))
                  have mixed : Try.prog.follows .mixedOrders = true := by kernel_rfl
                  clear hc hm'
                  gi_wp2
                  gi_region_with_o (refine ⟨trivial, ?_⟩; gi_at_call 11; refine (CallsIn.inRound l ((callsIn_wide (n := 0)).2 HPU.out)).mono ?_; rintro e W3 ⟨key1, err1, ps2, rfl, hr1, hst, hkeep, hoth⟩)
                  all_goals
                    have H3 := Lib.hid (H2D.out.same hst (cput_sub hr1) ⟨hkeep _ (by simp), hkeep _ (by simp)⟩)
                    have hlen := hr1.len
                    have I3 := Lib.hid ((hkeep Bi (by simp)).trans (show W2.drew.heap[Bi]? = _ from I2.out))
                    have L3 := Lib.hid ((hkeep (Bi + 1) (by simp)).trans (show W2.drew.heap[Bi + 1]? = _ from L2.out))
                    have S3 := Lib.hid ((hkeep Bs (by simp)).trans (show W2.drew.heap[Bs]? = _ from S2.out))
                    have G3 := Lib.hid ((hkeep g (by simp)).trans (show W2.drew.heap[g]? = _ from GR2.out))
                    have K3 := Lib.hid (K2.out.trans ((KeepsOthers.drew W2).trans hoth))
                    have i0 := cell_of_heap I3.out 0
                    have l0 := cell_of_heap L3.out 0
                    have fi := frozen_of_heap I3.out
                    have fl := frozen_of_heap L3.out
                    clear hst hkeep hoth hr1 HPU K2 GR2 I2 L2 S2 H2 H2D s0 m0 n0
                    gi_wp2
                    obtain ⟨t1, t2, t3⟩ := goes_round x H3.out I3.out L3.out S3.out (by omega) hge hBsi hTi (by simp) (by simp) rfl
                    refine ⟨K3.out.trans t2, fun k hk => ?_, t1⟩
                    obtain rfl : k = g := by simpa using hk
                    exact (t3 k (by omega) (by omega)).trans G3.out
                · gi_wp2
                  obtain ⟨t1, t2, t3⟩ := goes_round x H2.out I2.out L2.out S2.out (by omega) hge hBsi hTi (by simp) (by simp) rfl
                  refine ⟨K2.out.trans t2, fun k hk => ?_, t1⟩
                  obtain rfl : k = g := by simpa using hk
                  exact (t3 k (by omega) (by omega)).trans GR2.out
          case done =>
            rintro D xs W hD rfl ⟨ps', q1, q2, q3, q4, q5⟩ hK
            rw [List.length_attach] at q3
            have i0 := cell_of_heap q3 0
            have hRz := (q2.st.bel.1.block (w.heap.size + 1) (by omega)).trans HR0.out
            have r0 := cell_of_heap hRz 0
            have rf := frozen_of_heap hRz
            have HLE := Lib.hid (clen_any W (T + 1) T (.slice none 0 0) wd [] q2.o)
            have hB2 := q2.st.bel.1
            have hDge : w.heap.size + 2 ≤ D := Nat.le_trans H8.out.st.bel.2.1 hD
            have HRZ := Lib.hid hRz; have HK := Lib.hid hK; have HBW := Lib.hid hB2
            clear hRz hK hB2 q1 q2 q3 q4 q5
            go_wp2_with (go_at_call 15; refine HLE.out.mono ?_; rintro e w9 ⟨rfl, rfl⟩)
            have k0 := one_cell (.bool true) HRZ.out
            have hset : (W.setCell ⟨w.heap.size + 1, 0, none⟩ (.bool true)).heap[D]? = some (.deferred (some [])) := (Below.heap_setCell _ _ _ _ (by simp; omega)).trans HK.out
            have k1 : ((W.setCell ⟨w.heap.size + 1, 0, none⟩ (.bool true)).putObj D (.deferred none)).cell? ⟨w.heap.size + 1, 0, none⟩ = some (.bool true) := (World.cell?_of_block (World.putObj_heap_other (by simp; omega))).trans k0
            refine marks_ret1 (v := .bool true) rfl hset (by simp [results, Try.results5, go_sem, k1]) ⟨rfl, ?_⟩
            have f2 := (HB0.out.trans (HBW.out.mono (by omega))).setCell (p := ⟨w.heap.size + 1, 0, none⟩) (Nat.le_succ _) (.bool true)
            exact f2.grown (grownBy_putObj' _ D _) f2.size (fun k e => by obtain rfl : D = k := Option.some.inj e; omega)
    · clear hg
      go_wp2
      refine marks_ret0 (v := .bool true) (by simp [results, Try.results5, go_sem, k0]) rfl ⟨rfl, ?_⟩
      exact HBW1.out.setCell (p := ⟨w.heap.size + 1, 0, none⟩) (Nat.le_succ _) _
  · clear hg
    go_wp2
    refine marks_ret0 (v := .bool true) (by simp [results, Try.results5, go_sem, k0]) rfl ⟨rfl, ?_⟩
    exact HBW1.out.setCell (p := ⟨w.heap.size + 1, 0, none⟩) (Nat.le_succ _) _
end Go.Proofs.Ytipindjchcmckaa
