/- DERIVED. The walks of the reference's store: Key, Get, Try. -/
import Derived.Test.YtipindjchcmckaaCasC
import Derived.Deep.RegionHeld3
import Derived.Deep.DeepCutAuto
namespace Go.Proofs.Ytipindjchcmckaa
open Go.RowKit
set_option linter.unusedVariables false

/-- The pairs are those of the reference's objects. -/
def ObjP (wd : Int) (ps : List Pr) (objs : List (List UInt8)) : Prop := (∀ p, p ∈ ps ↔ ∃ b ∈ objs, p = (casKey wd b, b)) ∧ Srt ps ∧ ps.length = objs.length ∧ ∀ b ∈ objs, b.length ≤ 65536
theorem rof_get (w : World) (b : List UInt8) (hb : b.length ≤ 140737488351232) : Calls Try.prog 28 #[strV b] w fun e w' => e = .returned (.int .u64 (mixOf b).toNat) ∧ w = w' := by
  have := rof_any ⟨b.toArray⟩ w (by rw [str_size]; unfold maxLen; omega)
  rw [str_list] at this
  exact this
set_option maxHeartbeats 1000000 in
theorem rkey_any (w : World) (wd : Int) (v : Value) (hv : v.oneCell' = true) (b : List UInt8) (hb : b.length ≤ 140737488351232) :
    Calls Try.prog 14 #[.agg #[.int .i64 wd, v], strV b] w fun e w' => e = .returned (strV (casKey wd b)) ∧ Below w.heap.size w w' := by
  have hof := fun w => rof_get w b hb
  have HOF := Lib.hid hof
  clear hof
  obtain ⟨u, hu⟩ : ∃ u, u = strV b := ⟨_, rfl⟩
  rw [← hu] at HOF ⊢
  clear hu
  go_enter Try.func14, Try.ntmps14
  go_wp2_with fail
  go_region_law (first | (go_simp; go_at_call 28; refine (HOF.out _).mono ?_; rintro e w' ⟨rfl, rfl⟩) | (go_simp; go_at_call 27; refine (rnarrow_any _ _ _).mono ?_; rintro e w' ⟨rfl, rfl⟩) | (go_simp; go_at_call 26; refine (rtext_any _ _).mono ?_; rintro e w' ⟨rfl, hbl⟩))
  all_goals
    go_wp2_with fail
    go_ret
    exact ⟨rfl, ((Below.refl _ w).alloc (Nat.le_refl _) _).trans ((show Below (w.heap.size + 1) (w.alloc _) _ from ⟨hbl.os, hbl.tape, hbl.output, by simpa using hbl.size, fun k hk => hbl.block k (by simpa using hk)⟩).mono (Nat.le_succ _))⟩
theorem below_to_drew (w : World) : Below w.heap.size w w.drew := ⟨rfl, rfl, rfl, Nat.le_refl _, fun _ _ => rfl⟩
theorem objs_at {wd : Int} {ps : List Pr} {objs : List (List UInt8)} (h : ObjP wd ps objs) {k : Nat} {l t : List UInt8} (hk : objs[k]? = some l) (e : casKey wd l = t) : (t, l) ∈ ps := by
  subst e
  exact (h.1 _).2 ⟨l, List.mem_of_getElem? hk, rfl⟩
theorem objs_no {wd : Int} {ps : List Pr} {objs : List (List UInt8)} {t : List UInt8} (h : ObjP wd ps objs) (hn : ∀ l ∈ objs, casKey wd l ≠ t) : ∀ v, (t, v) ∉ ps := by
  intro v hv
  obtain ⟨l, hl, e⟩ := (h.1 _).1 hv
  exact hn l hl (Prod.mk.inj e).1.symm
set_option maxHeartbeats 1000000 in
theorem rget_any (w : World) (wd : Int) (ps : List Pr) (a : Option Addr) (c : Nat) (objs : List (List UInt8)) (ho : ObjP wd ps objs) (hr : RdStrs w a objs) (hl : objs.length ≤ 1000000) (t : List UInt8) :
    Calls Try.prog 17 #[.agg #[.int .i64 wd, .slice a objs.length c], strV t] w (GetTo ps t w) := by
  have HR := Lib.hid hr; have HO := Lib.hid ho; clear hr ho
  unfold strV
  go_enter Try.func17, Try.ntmps17
  go_wp2_with fail
  go_loopw [11] (fun i wr => ∃ k : Nat, k ≤ objs.length ∧ i = .int .i64 k ∧ wr.heap[w.heap.size]? = some (.cells #[.int .i64 wd, .slice a objs.length c] 28 (0, 0)) ∧ Hid (Below w.heap.size w wr) ∧ Hid (∀ l ∈ objs.take k, casKey wd l ≠ t)) (fun i _ => objs.length - (intOf i).toNat)
  case atStart => exact ⟨0, Nat.zero_le _, rfl, heap_alloc_new w _, (Below.refl _ w).alloc (Nat.le_refl _) _, by intro l hl; simp at hl⟩
  case round =>
    obtain ⟨k, hk, rfl, hbx, hbl, hno⟩ := hrel
    have c0 := cell_of_heap hbx 0
    have c1 := cell_of_heap hbx 1
    have HBX := Lib.hid hbx; clear hbx
    by_cases hlt : k < objs.length
    · obtain ⟨b, o, rfl, hc⟩ := (HR.out.below hbl.out) (by intro e; rw [e] at hlt; exact absurd hlt (Nat.not_lt_zero _))
      obtain ⟨l, hl'⟩ : ∃ l, objs[k]? = some l := ⟨_, List.getElem?_eq_getElem hlt⟩
      have h1 := hc k l hl'
      have hll := HO.out.2.2.2 l (List.mem_of_getElem? hl')
      have HL := Lib.hid hl'
      clear hc hl'
      have HK := Lib.hid (rkey_any wr wd (.slice (some ⟨b, o, none⟩) objs.length c) rfl l (by omega))
      go_wp2_with fail
      refine HK.out.mono ?_
      rintro e w2 ⟨rfl, hb2⟩
      have hbx2 : w2.heap[w.heap.size]? = _ := (hb2.block w.heap.size (lt_of_heap HBX.out)).trans HBX.out
      have HB2 := Lib.hid (hbl.out.trans (hb2.mono hbl.out.size)); have HBX2 := Lib.hid hbx2
      clear hb2 hbx2 HK h1 c0 c1
      unfold strV
      by_cases he : casKey wd l = t
      · have hq : (casKey wd l == t) = true := by simpa using he
        go_wp2
        go_ret2
        exact ⟨l, true, rfl, fun _ => objs_at HO.out HL.out he, (fun h => by cases h), HB2.out⟩
      · have hq : (casKey wd l == t) = false := by simpa using he
        go_wp2
        go_roundw
        case rel =>
          refine ⟨k + 1, by omega, by go_num, HBX2.out, HB2.out, ?_⟩
          intro m hm
          rw [List.take_add_one, HL.out] at hm
          rcases List.mem_append.1 hm with h | h
          · exact hno.out m h
          · obtain rfl : m = l := by simpa using h
            exact he
        case measure => simp [intOf]; omega
    · obtain rfl : k = objs.length := by omega
      clear c0 c1
      go_wp2
      go_ret2
      have := hno.out
      rw [List.take_length] at this
      exact ⟨[], false, rfl, (fun h => by cases h), fun _ => ⟨rfl, objs_no HO.out this⟩, hbl.out⟩
set_option maxHeartbeats 1000000 in
theorem rtry_any (w : World) (wd : Int) (ps : List Pr) (a : Option Addr) (c : Nat) (objs : List (List UInt8)) (ho : ObjP wd ps objs) (hr : RdStrs w a objs) (hl : objs.length ≤ 1000000) (b : List UInt8) (hb : b.length ≤ 140737488351232) :
    Calls Try.prog 22 #[.agg #[.int .i64 wd, .slice a objs.length c], strV b] w (TryTo wd ps b w) := by
  have HR := Lib.hid hr; have HO := Lib.hid ho; clear hr ho
  have hsz := str_size b
  unfold strV
  by_cases hbig : 65536 < b.length
  · go_enter Try.func22, Try.ntmps22
    go_wp2
    go_ret
    exact ⟨_, rfl, .inl ⟨rfl, hbig⟩, (Below.refl _ w).alloc (Nat.le_refl _) _⟩
  · have hble : b.length ≤ 65536 := by omega
    clear hbig
    obtain ⟨w0, hw0⟩ : ∃ w0, w0 = (w.alloc (.cells #[.int .i64 wd, .slice a objs.length c] 28)).drew := ⟨_, rfl⟩
    have hb0 : Below w.heap.size w w0 := by rw [hw0]; exact ((Below.refl _ w).alloc (Nat.le_refl _) _).trans (below_to_drew _ |>.mono (by simp))
    have hbx : w0.heap[w.heap.size]? = some (.cells #[.int .i64 wd, .slice a objs.length c] 28 (0, 0)) := by rw [hw0]; exact heap_alloc_new w _
    have HB0 := Lib.hid hb0; have HBX := Lib.hid hbx; have HW0 := Lib.hid hw0
    have HK := Lib.hid (rkey_any w0 wd (.slice a objs.length c) rfl b (by omega))
    clear hb0 hbx hw0
    go_enter Try.func22, Try.ntmps22
    go_wp2_with fail
    have c0 := cell_of_heap HBX.out 0
    have c1 := cell_of_heap HBX.out 1
    rw [HW0.out] at c0 c1 HK HB0
    go_region_held3 (fun w' => w'.cell? ⟨w.heap.size, 0, none⟩ = some (.int .i64 wd) ∧ w'.cell? ⟨w.heap.size, 1, none⟩ = some (.slice a objs.length c)) (first | exact ⟨z0, z1⟩ | exact ⟨y0, y1⟩ | exact ⟨c0, c1⟩)
      (first | (go_at_call 14; refine HK.out.mono ?_; rintro e w2 ⟨rfl, hb2⟩; have hbx2 : w2.heap[w.heap.size]? = _ := (hb2.block w.heap.size (by simp)).trans (heap_alloc_new w _); have y0 := cell_of_heap hbx2 0; have y1 := cell_of_heap hbx2 1; have HB2 := Lib.hid (HB0.out.trans (hb2.mono HB0.out.size)); have HBX2 := Lib.hid hbx2; clear hb2 hbx2) | (go_at_call 17; refine (rget_any w2 wd ps a c objs HO.out (HR.out.below HB2.out) hl (casKey wd b)).mono ?_; rintro e w3 ⟨val, bb, rfl, g1, g2, g3⟩; have hbx3 : w3.heap[w.heap.size]? = _ := (g3.block w.heap.size (lt_of_heap HBX2.out)).trans HBX2.out; have z0 := cell_of_heap hbx3 0; have z1 := cell_of_heap hbx3 1; clear hbx3; have G1 := Lib.hid g1; have G2 := Lib.hid g2; have G3 := Lib.hid (HB2.out.trans (g3.mono HB2.out.size)); clear g1 g2 g3))
    all_goals
      cases bb
      · have g := (G2.out rfl).2
        have G := Lib.hid g
        clear g G1 G2
        go_wp2_with fail
        go_ret
        exact ⟨_, rfl, .inr (.inr ⟨rfl, hble, .inr G.out⟩), G3.out⟩
      · have g := G1.out rfl
        have G := Lib.hid g
        clear g G1 G2
        unfold strV
        by_cases hv : val = b
        · subst hv
          go_wp2_with fail
          go_ret
          exact ⟨_, rfl, .inr (.inr ⟨rfl, hble, .inl G.out⟩), G3.out⟩
        · have hv1 : (val == b) = false := by simpa using hv
          have hv2 : (val != b) = true := by simpa using hv
          go_wp2
          all_goals
            go_ret
            exact ⟨_, rfl, .inr (.inl ⟨rfl, hble, val, G.out, hv⟩), G3.out⟩
end Go.Proofs.Ytipindjchcmckaa
