/- DERIVED. The walk of CasDoes. -/
import Derived.Test.YtipindjchcmckaaCasDo
namespace Go.Proofs.Ytipindjchcmckaa
open Go.RowKit Go.Shelf
set_option linter.unusedVariables false

theorem does_start {B : Nat} {w0 w : World} {P : Nat} {wd : Int} (h : CasOwn B w0 P wd [] w) :
    DoesInv B w0 P w.heap.size wd [] none 0 [] (w.alloc (.cells #[.int .i64 wd, .slice none 0 0] 28)) := by
  have hB : B ≤ w.heap.size := by
    obtain ⟨S, v, h1, h2, h3, h4⟩ := h
    exact h4
  exact ⟨h.with.mark _, heap_alloc_new w _, Rd.nil _, (by intro g hg; cases hg), hB⟩
theorem one_cell {w : World} {R : Nat} {u : Value} {T : TypeId} (x : Value) (h : w.heap[R]? = some (.cells #[u] T (0, 0))) : (w.setCell ⟨R, 0, none⟩ x).cell? ⟨R, 0, none⟩ = some x := cell_of_heap (heap_setCell_here (i := 0) x h) 0
theorem enters_over : ∀ args w, (callFunc 43 args).run Try.prog w = .ok (.enter 43 args) w := enters_of Try.func43 (by kernel_rfl) rfl
theorem kpS_b {g : Nat} {w : World} (hg : g < w.heap.size) (W : World) (l : Nat) (o o' : Obj) (hl : w.heap.size ≤ l) (h : W.heap[l]? = some o) (_ : o.isCells = false) (_ : o.isWalk = false) : KpS [g] W (W.putObj l o') := by
  intro k hk
  obtain rfl : k = g := by simpa using hk
  exact World.putObj_heap_other (by omega)
set_option maxRecDepth 100000 in
set_option maxHeartbeats 4000000 in
theorem does_any (w : World) (wd : Int) (a : Option Addr) (c : Nat) (ls : List (List UInt8)) (ha : RdStrs w a ls) (hl : ls.length ≤ 140737488351232) (hr : ∀ r ∈ ls, r.length ≤ 140737488351232) (key : List UInt8) (hkl : key.length ≤ 140737488351232) :
    Calls Try.prog 3 #[.int .i64 wd, .slice a ls.length c, .string ⟨key.toArray⟩] w fun e w' => e = .returned (.bool true) ∧ Below w.heap.size w w' := by
  have HA := Lib.hid ha; have HR := Lib.hid hr; clear ha hr
  obtain ⟨w0, hw0⟩ : ∃ w0, w0 = w.alloc (.cells #[.bool false] 4) := ⟨_, rfl⟩
  have hb0 : Below w.heap.size w w0 := by rw [hw0]; exact (Below.refl _ w).alloc (Nat.le_refl _) _
  have hz0 : w0.heap.size = w.heap.size + 1 := by rw [hw0]; simp
  have hr0 : w0.heap[w.heap.size]? = some (.cells #[.bool false] 4 (0, 0)) := by rw [hw0]; exact heap_alloc_new w _
  have HB0 := Lib.hid hb0; have HZ0 := Lib.hid hz0; have HR0 := Lib.hid hr0; have HW0 := Lib.hid hw0
  have HCA := Lib.hid (calive_any w0)
  rw [hw0] at HCA
  have hsz := str_size key
  clear hb0 hz0 hr0 hw0
  refine calls_of_wp_marks Try.func3 rfl ?_
  simp only [Try.ntmps3, List.size_toArray, List.length_cons, List.length_nil, Nat.reduceAdd, Nat.reduceSub, Array.replicate_succ, Array.replicate_zero, List.push_toArray, List.append_toArray, List.nil_append, List.cons_append]
  go_wp2_with fail
  refine HCA.out.mono ?_
  rintro e w1 ⟨rfl, hb1⟩
  rw [← HW0.out] at hb1
  have hb1' : Below (w.heap.size + 1) w0 w1 := by rw [← HZ0.out]; exact hb1
  have HB1 := Lib.hid hb1'
  have HBW1 := Lib.hid (HB0.out.trans (hb1.mono HB0.out.size))
  have hs1 : w.heap.size + 1 ≤ w1.heap.size := by have := hb1.size; rw [HZ0.out] at this; exact this
  have HRZ1 := Lib.hid ((hb1'.block w.heap.size (Nat.lt_succ_self _)).trans HR0.out)
  have HG := Lib.hid (cgreat_any w1 a c ls (HA.out.below HBW1.out) hl HR.out)
  clear hb1 hb1' HCA HW0
  go_wp2_with fail
  refine HG.out.mono ?_
  rintro e w2 ⟨g, rfl, hg, rfl⟩
  have r0 := cell_of_heap HRZ1.out 0
  have rf := frozen_of_heap HRZ1.out
  cases g
  · obtain ⟨hl60, hrs⟩ := hg rfl
    have HRS := Lib.hid hrs; clear hg hrs HG
    by_cases hbig : 1024 < key.length
    · have k0 := one_cell (.bool true) HRZ1.out
      go_wp2
      refine marks_ret0 (v := .bool true) (by simp [results, Try.results3, go_sem, k0]) rfl ⟨rfl, ?_⟩
      exact HBW1.out.setCell (p := ⟨w.heap.size, 0, none⟩) (Nat.le_refl _) _
    · clear r0 rf
      go_wp2_with fail
      refine (cas_new w1 (w.heap.size + 1) w0 HB1.out hs1 wd).mono ?_
      rintro e w3 ⟨P, rfl, o3⟩
      have HI0 := Lib.hid (does_start o3)
      clear o3
      obtain ⟨M, hM⟩ : ∃ M, M = w3.heap.size := ⟨_, rfl⟩
      rw [← hM] at HI0
      have HM := Lib.hid hM; clear hM
      go_wp2_with fail
      rw [← HM.out]
      generalize w3.alloc (.cells #[.int .i64 wd, .slice none 0 0] 28) = w4 at HI0 ⊢
      clear HM
      go_loopw [41] (fun i wr => ∃ (k : Nat) (ps : List Pr) (objs : List (List UInt8)) (ao : Option Addr) (co : Nat), k ≤ ls.length ∧ ps.length ≤ k ∧ i = .int .i64 k ∧ Hid (DoesInv (w.heap.size + 1) w0 P M wd ps ao co objs wr) ∧ Hid (ObjP wd ps objs)) (fun i _ => ls.length - (intOf i).toNat)
      case atStart => exact ⟨0, [], [], none, 0, Nat.zero_le _, Nat.le_refl _, rfl, HI0.out, ⟨by intro p; simp, srt_nil, rfl, by simp⟩⟩
      case round =>
        obtain ⟨k, ps, objs, ao, co, hk, hps, rfl, HI, HO⟩ := hrel
        by_cases hlt : k < ls.length
        · obtain ⟨b, o, rfl, hc⟩ := (HA.out.below ((HB0.out.trans (HI.out.st.bel.1.mono (Nat.le_succ _))))) (by intro e; rw [e] at hlt; exact absurd hlt (Nat.not_lt_zero _))
          obtain ⟨l, hl'⟩ : ∃ l, ls[k]? = some l := ⟨_, List.getElem?_eq_getElem hlt⟩
          have h1 := hc k l hl'
          have hll := HRS.out l (List.mem_of_getElem? hl')
          have hol : objs.length ≤ k := by rw [← HO.out.2.2.1]; exact hps
          have HT := Lib.hid (with_try HI.out.st (by omega) l (by omega))
          clear hc hl'
          go_wp2_with fail
          refine HT.out.mono ?_
          rintro e w5 ⟨err3, rfl, hr3, hb5⟩
          have H5 := Lib.hid (HI.out.below hb5); have HR3 := Lib.hid hr3
          have HP := Lib.hid (with_put H5.out.st (by omega) l (by omega))
          clear hb5 hr3 HT h1
          go_wp2_with fail
          refine HP.out.mono ?_
          rintro e w6 ⟨key1, err1, ps', rfl, hr1, hst, hkeep⟩
          have H6 := Lib.hid (H5.out.put hst hkeep); have HR1 := Lib.hid hr1
          have hpl := hr1.len
          have m0 := cell_of_heap H6.out.var 0
          have m1 := cell_of_heap H6.out.var 1
          have HRP := Lib.hid (rput_any w6 wd ps ao co objs HO.out H6.out.rd (by omega) l (by omega))
          clear hst hkeep HP hr1
          go_wp2_with fail
          refine HRP.out.mono ?_
          rintro e w7 ⟨a', c', objs', key2, err2, rfl, hr2, hrd, hb7, hnew⟩
          obtain ⟨rfl, rfl, rfl, ho'⟩ := cas_same HO.out HR1.out hr2 HR3.out H6.out.st.bel.2.2
          have hI7 := H6.out.below hb7
          have HS := Lib.hid (DoesInv.store H6.out hb7 hrd hnew rfl)
          have v0 := cell_of_heap hI7.var 0
          have v1 := cell_of_heap hI7.var 1
          have vf := frozen_of_heap hI7.var
          have HO' := Lib.hid ho'
          have hM7 := lt_of_heap hI7.var
          clear HRP hr2 hrd hnew hI7 m0 m1 HR1 HR3
          go_wp2_with fail
          have H8 := HS.out.below ((Below.refl _ _).alloc (Nat.le_refl _) (.cells #[.int .i64 wd, .slice a' objs'.length c'] 28))
          generalize ((w7.setCell ⟨M, 0, none⟩ (.int .i64 wd)).setCell ⟨M, 1, none⟩ (.slice a' objs'.length c')).alloc (.cells #[.int .i64 wd, .slice a' objs'.length c'] 28) = w8 at H8 ⊢
          have m0 := cell_of_heap H8.var 0
          have m1 := cell_of_heap H8.var 1
          have HI8 := Lib.hid (H8.below (below_to_drew w8))
          have hol' : objs'.length ≤ k + 1 := by rw [← HO'.out.2.2.1]; omega
          have hlen : ps'.length = objs'.length := HO'.out.2.2.1
          have HLEN := Lib.hid hlen
          have HKE := Lib.hid (with_key HI8.out.st l (by omega))
          clear H8 HS v0 v1 vf hlen
          unfold strV
          go_region_held3 (fun w' => w'.cell? ⟨M, 0, none⟩ = some (.int .i64 wd) ∧ w'.cell? ⟨M, 1, none⟩ = some (.slice a' objs'.length c')) (first | exact ⟨z0, z1⟩ | exact ⟨y0, y1⟩ | exact ⟨m0, m1⟩)
            (first | (go_at_call 13; refine HKE.out.mono ?_; rintro e w9 ⟨rfl, hb9⟩; have H9 := Lib.hid (HI8.out.below hb9); have y0 := cell_of_heap H9.out.var 0; have y1 := cell_of_heap H9.out.var 1; have HRK := Lib.hid (rkey_any w9 wd (.slice a' objs'.length c') rfl l (by omega)); clear hb9) | (go_at_call 14; refine HRK.out.mono ?_; rintro e w10 ⟨rfl, hb10⟩; have H10 := Lib.hid (H9.out.below hb10); have z0 := cell_of_heap H10.out.var 0; have z1 := cell_of_heap H10.out.var 1; have HLE := Lib.hid (with_len H10.out.st); clear hb10; unfold strV) | (go_at_call 15; refine HLE.out.mono ?_; rintro e w11 ⟨rfl, rfl⟩; rw [HLEN.out]))
          all_goals
            go_wp2_with fail
            go_roundw
            case rel => exact ⟨k + 1, ps', objs', a', c', by omega, by omega, by go_num, H10.out, HO'.out⟩
            case measure => simp [intOf]; omega
        · obtain rfl : k = ls.length := by omega
          have hol : objs.length ≤ ls.length := by rw [← HO.out.2.2.1]; exact hps
          have HG1 := Lib.hid (with_get HI.out.st (by omega) key)
          go_wp2_with fail
          refine HG1.out.mono ?_
          rintro e w5 ⟨v1, b1, rfl, g1, g2, hb5⟩
          have H5 := Lib.hid (HI.out.below hb5); have G1 := Lib.hid g1; have G2 := Lib.hid g2
          have m0 := cell_of_heap H5.out.var 0
          have m1 := cell_of_heap H5.out.var 1
          have HG2 := Lib.hid (rget_any w5 wd ps ao co objs HO.out (RdStrs.of_rd H5.out.rd) (by omega) key)
          clear HG1 g1 g2 hb5
          go_wp2_with fail
          refine HG2.out.mono ?_
          rintro e w6 ⟨v2, b2, rfl, g3, g4, hb6⟩
          obtain ⟨rfl, rfl⟩ := get_same HO.out.2.1 G1.out G2.out g3 g4
          have H6 := Lib.hid (H5.out.below hb6)
          clear HG2 g3 g4 hb6 m0 m1 G1 G2
          go_wp2_with fail
          refine (cget_nil _ _).mono ?_
          rintro e w7 ⟨rfl, rfl⟩
          go_wp2_with fail
          refine (cput_nil _ _).mono ?_
          rintro e w7 ⟨rfl, rfl⟩
          go_wp2_with fail
          refine (call_nil _).mono ?_
          rintro e w7 ⟨rfl, e7⟩
          have hb7 : Below (w.heap.size + 1) w0 w7 := by
            rw [e7]
            exact H6.out.st.bel.1.trans (((Below.refl _ w6).alloc (Nat.le_refl _) _).mono H6.out.st.bel.2.1)
          have hc7 : w7.heap[w6.heap.size]? = some (.cells #[.slice none 0 0] 55 (0, 0)) := by rw [e7]; exact heap_alloc_new w6 _
          have HB7 := Lib.hid hb7; have HC7 := Lib.hid hc7
          clear e7 hb7 hc7
          go_wp2_with fail
          unfold strV
          have hs7 : w.heap.size < w7.heap.size := Nat.lt_of_lt_of_le (by rw [HZ0.out]; exact Nat.lt_succ_self _) HB7.out.size
          refine (wpIn_wide (n := 3)).1 ?_
          refine wpIn_rangeFunc_ownH rfl (by omega) (gf := 43) (lb := #[.pointer (some ⟨w6.heap.size, 0, none⟩)]) rfl trivial enters_over
            (over_stops 2 w6.heap.size w.heap.size 0 none [] w7 (by omega) (by simp) HC7.out (fun h => absurd rfl h) (fun b e => by cases e)) (fun h k => KpS.trans h k) (kpS_b hs7) (Below.refl _ _) (fun _ => rfl)
            (fun _ W => Below (w.heap.size + 1) w0 W) (fun _ _ _ => False) (ownFrom_below (by rw [HZ0.out]; omega) (by omega)) (fun _ _ _ _ _ hs _ _ => hs) HB7.out
            (fun _ _ _ => True) (fun _ _ _ _ _ _ _ _ _ => trivial) ?assign ?body ?done ?stop
          case assign =>
            intro l pre x W K hI hK
            gi_wp2
            exact hK _ _ ((KeepsOthers.refl W).from _) (fun _ _ => rfl) hI trivial
          case body =>
            intro l pre x a' W _ _ _ _ hlen
            exact absurd hlen (Nat.not_lt_zero _)
          case stop =>
            intro D c pre W _ _ h _
            exact h.elim
          case done =>
            rintro D xs W hD _ hB hK
            have HBW := Lib.hid hB
            have hRz := (hB.block w.heap.size (Nat.lt_succ_self _)).trans HR0.out
            have r0 := cell_of_heap hRz 0
            have rf := frozen_of_heap hRz
            have HRZ := Lib.hid hRz; have HK := Lib.hid hK; have HD := Lib.hid hD
            clear hRz hB hK hD
            go_wp2_with (first | (go_at_call 10; refine (ctry_nil _ _).mono ?_; rintro e w8 ⟨rfl, rfl⟩) | (go_at_call 13; refine (ckey_nil _ _).mono ?_; rintro e w8 ⟨rfl, rfl⟩) | (go_at_call 15; refine (clen_nil _).mono ?_; rintro e w8 ⟨rfl, rfl⟩))
            have k0 := one_cell (.bool true) HRZ.out
            have hset : (W.setCell ⟨w.heap.size, 0, none⟩ (.bool true)).heap[D]? = some (.deferred (some [])) := (Below.heap_setCell _ _ _ _ (by have := HD.out; simp; omega)).trans HK.out
            have k1 : ((W.setCell ⟨w.heap.size, 0, none⟩ (.bool true)).putObj D (.deferred none)).cell? ⟨w.heap.size, 0, none⟩ = some (.bool true) := (World.cell?_of_block (World.putObj_heap_other (by have := HD.out; simp; omega))).trans k0
            refine marks_ret1 (v := .bool true) rfl hset (by simp [results, Try.results3, go_sem, k1]) ⟨rfl, ?_⟩
            have f2 := (HB0.out.trans (HBW.out.mono (Nat.le_succ _))).setCell (p := ⟨w.heap.size, 0, none⟩) (Nat.le_refl _) (.bool true)
            exact f2.grown (grownBy_putObj' _ D _) f2.size (fun k e => by have := HD.out; obtain rfl : D = k := Option.some.inj e; omega)
  · clear hg
    have k0 := one_cell (.bool true) HRZ1.out
    go_wp2
    refine marks_ret0 (v := .bool true) (by simp [results, Try.results3, go_sem, k0]) rfl ⟨rfl, ?_⟩
    exact HBW1.out.setCell (p := ⟨w.heap.size, 0, none⟩) (Nat.le_refl _) _
end Go.Proofs.Ytipindjchcmckaa
