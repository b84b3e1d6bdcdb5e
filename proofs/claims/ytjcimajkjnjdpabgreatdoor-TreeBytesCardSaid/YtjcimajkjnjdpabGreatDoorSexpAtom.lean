/- DERIVED. The reader's atom. -/
import Derived.Test.YtjcimajkjnjdpabGreatDoorSexpAtA
import Derived.Test.YtjcimajkjnjdpabGreatDoorSexpParse
import Derived.Test.YtjcimajkjnjdpabGreatDoorMBase
import Derived.Deep.LoopGhost
import Derived.Deep.CutBlock
import Derived.Deep.DeepCutAuto
import Derived.IntWalk
namespace Go.Proofs.YtjcimajkjnjdpabGreatDoor
open Go.RowKit
set_option linter.unusedVariables false

/-- A reader at block W: its text, its place, its fault. -/
def RdAt (W : Nat) (S : ByteArray) (at_ : Nat) (f : Int) (w : World) : Prop := w.heap[W]? = some (.cells #[.string S, .int .i64 at_, .int .i64 f] 88 (0, 0))
theorem RdAt.cells {W : Nat} {S : ByteArray} {at_ : Nat} {f : Int} {w : World} (h : RdAt W S at_ f w) : w.cell? ⟨W, 0, none⟩ = some (.string S) ∧ w.cell? ⟨W, 1, none⟩ = some (.int .i64 at_) ∧ w.cell? ⟨W, 2, none⟩ = some (.int .i64 f) ∧ ∀ i, w.frozen? ⟨W, i, none⟩ = false :=
  ⟨cell_of_heap h 0, cell_of_heap h 1, cell_of_heap h 2, frozen_of_heap h⟩
theorem RdAt.keep {W : Nat} {S : ByteArray} {at_ : Nat} {f : Int} {w w' : World} (h : RdAt W S at_ f w) (hb : Below w.heap.size w w') : RdAt W S at_ f w' := (hb.block W (lt_of_heap h)).trans h
theorem RdAt.setAt {W : Nat} {S : ByteArray} {at_ : Nat} {f : Int} {w : World} (h : RdAt W S at_ f w) (k : Nat) : RdAt W S k f (w.setCell ⟨W, 1, none⟩ (.int .i64 k)) := heap_setCell_here (i := 1) (.int .i64 k) h
theorem RdAt.setFault {W : Nat} {S : ByteArray} {at_ : Nat} {f : Int} {w : World} (h : RdAt W S at_ f w) (g : Int) : RdAt W S at_ g (w.setCell ⟨W, 2, none⟩ (.int .i64 g)) := heap_setCell_here (i := 2) (.int .i64 g) h
theorem Ch.drewN {S : List Nat} {a w : World} (h : Ch S a w) (n : Nat) : Ch S a (w.drewN n) := ⟨h.os, h.tape, h.output, h.size, h.block⟩
theorem RdAt.other {W : Nat} {S : ByteArray} {at_ : Nat} {f : Int} {w : World} (h : RdAt W S at_ f w) {b : Nat} (hb : W ≠ b) (i : Nat) (v : Value) : RdAt W S at_ f (w.setCell ⟨b, i, none⟩ v) := (Below.heap_setCell _ _ _ _ hb).trans h
/-- Where the digits of an atom are read: so many of them. -/
def DigSt (w1 : World) (W : Nat) (S : ByteArray) (a i : Nat) (w : World) : Prop := RdAt W S (a + i) 0 w ∧ Ch [W] w1 w
theorem DigSt.step {w1 w : World} {W : Nat} {S : ByteArray} {a i : Nat} (h : DigSt w1 W S a i w) (n : Nat) : DigSt w1 W S a (i + 1) ((w.drewN n).setCell ⟨W, 1, none⟩ (.int .i64 ((a + (i + 1) : Nat) : Int))) :=
  ⟨RdAt.setAt (w := w.drewN n) h.1 _, Ch.setCell (w := w.drewN n) (Ch.trans (b := w) h.2 (T := []) ⟨rfl, rfl, rfl, Nat.le_refl _, fun _ _ _ => rfl⟩ (by simp)) (p := ⟨W, 1, none⟩) (.inl (by simp)) _⟩
def AtomTo (w : World) (W : Nat) (S : ByteArray) : Except Int (T × List UInt8) → Ending → World → Prop
  | .ok (t, r), e, w' => e = .returned (.agg #[.bool true, strV t.atom, .slice none 0 0]) ∧ RdAt W S (S.size - r.length) 0 w' ∧ Ch [W] w w'
  | .error f, e, w' => e = .returned (.agg #[.bool false, .string ⟨#[]⟩, .slice none 0 0]) ∧ (∃ a, RdAt W S a f w') ∧ Ch [W] w w'
set_option maxRecDepth 100000 in
set_option maxHeartbeats 4000000 in
theorem ratom_any (w0 w : World) (W : Nat) (S : ByteArray) (a : Nat) (hr : RdAt W S a 0 w) (hS : S.size ≤ 65536) (ha : a < S.size) (htab : Tab w0) (hb : Below w0.heap.size w0 w) (hW : w0.heap.size ≤ W) :
    Calls Tryz.prog 73 #[.pointer (some ⟨W, 0, none⟩)] w (AtomTo w W S (textT (S.data.toList.drop a))) := by
  have hz : (w.alloc (.cells #[.bool false, .string ⟨#[]⟩, .slice none 0 0] 50)).heap.size = w.heap.size + 1 := by simp
  have hb1 : Below w.heap.size w (w.alloc (.cells #[.bool false, .string ⟨#[]⟩, .slice none 0 0] 50)) := (Below.refl _ w).alloc (Nat.le_refl _) _
  obtain ⟨w1, hw1⟩ : ∃ w1, w.alloc (.cells #[.bool false, .string ⟨#[]⟩, .slice none 0 0] 50) = w1 := ⟨_, rfl⟩
  rw [hw1] at hb1 hz
  have hr1 := hr.keep hb1
  obtain ⟨c0, c1, c2, cf⟩ := hr1.cells
  obtain ⟨sl, hsl⟩ : ∃ sl, sl = S.data.toList := ⟨_, rfl⟩
  have hSl : S.size = sl.length := by rw [hsl]; simp
  obtain ⟨j, hj6, hja, hjd, hjs⟩ := digits_of (sl.drop a)
  rw [List.length_drop] at hja
  have hget : ∀ (i : Nat) (h : i < S.size) (c : UInt8), sl[i]? = some c → S[i] = c := by
    intro i h c hc
    rw [hsl] at hc
    rw [List.getElem?_eq_getElem (by simpa using h)] at hc
    exact Option.some.inj hc
  have HSLE := Lib.hid hsl; have HZ := Lib.hid hz; have HWL := Lib.hid (lt_of_heap hr); have HR1 := Lib.hid hr1; have HB1 := Lib.hid hb1; have HB := Lib.hid hb; have HJL := Lib.hid (show j ≤ (sl.drop a).length from by rw [List.length_drop]; exact hja); have HJD := Lib.hid hjd; have HJS := Lib.hid hjs; have HGET := Lib.hid hget; have HSL := Lib.hid hSl; have HTAB := Lib.hid htab
  have haj : a + j ≤ S.size := by omega
  clear hr1 hz hb1 hb hjd hjs hget hSl hsl htab hr hja
  rw [← HSLE.out]
  go_enter Tryz.func73, Tryz.ntmps73
  go_wp2_with fail
  go_quiet (fail)
  go_upto_block 0 with fail
  go_cut [3] (fun x wx => x = .int .i64 (decVal ((sl.drop a).take j) : Nat) ∧ DigSt w1 W S a j wx)
  case first =>
    go_wp2_with fail
    go_loopg [3] j (fun g x wx => ∃ i : Nat, i ≤ j ∧ g = j - i ∧ x = .int .i64 (decVal ((sl.drop a).take i) : Nat) ∧ Hid (DigSt w1 W S a i wx))
    case atStart => exact ⟨0, Nat.zero_le _, rfl, rfl, ⟨HR1.out, Ch.trans (b := w1) (Ch.refl _ _) (T := []) ⟨rfl, rfl, rfl, Nat.le_refl _, fun _ _ _ => rfl⟩ (by simp)⟩⟩
    case round =>
      obtain ⟨i, hi, rfl, rfl, hst⟩ := hrel
      obtain ⟨k0, k1, k2, kf⟩ := hst.out.1.cells
      obtain ⟨p, hp⟩ : ∃ p, p = a + i := ⟨_, rfl⟩
      rw [← hp] at k1
      obtain ⟨N, hN⟩ : ∃ N, N = decVal ((sl.drop a).take i) := ⟨_, rfl⟩
      have hNl : N < 1000000 := by rw [hN]; exact decVal_take_lt hi hj6 HJD.out
      rw [← hN]
      have HP := Lib.hid hp; have HN := Lib.hid hN
      by_cases hij : i < j
      · obtain ⟨c, hc, hd⟩ := HJD.out i hij
        have hsnoc : decVal ((sl.drop a).take (i + 1)) = N * 10 + (c.toNat - 48) := by
          rw [hN, take_get hc, decVal_snoc]
        have hd' := isDig_iff.1 hd
        have hpl : p < S.size := by omega
        have hcc : S[p] = c := HGET.out p hpl c (by rw [hp]; rw [List.getElem?_drop] at hc; exact hc)
        obtain ⟨z, hz⟩ : ∃ z : Int, z = ((S[p]'hpl).toNat : Int) := ⟨_, rfl⟩
        have hz1 : 48 ≤ z ∧ z ≤ 57 := by rw [hz, hcc]; omega
        have hzc : ((N * 10 + (c.toNat - 48) : Nat) : Int) = (N : Int) * 10 + (z - 48) := by rw [hz, hcc]; omega
        have hz2 := hz.symm
        have HSN := Lib.hid (hsnoc.trans rfl); have HZC := Lib.hid hzc
        have hpa : (p : Int) - a < 6 := by omega
        have hw8 : IntKind.u8.wrap (z - 48) = z - 48 := by simp [IntKind.wrap, IntKind.bits, IntKind.signed]; omega
        have hw64 : IntKind.i64.wrap ((N : Int) * 10) = (N : Int) * 10 := IntWalk.i64_in _ (by omega)
        have hw65 : IntKind.i64.wrap ((N : Int) * 10 + (z - 48)) = (N : Int) * 10 + (z - 48) := IntWalk.i64_in _ (by omega)
        clear hp hN hsnoc hcc hz hzc hc hd'
        go_wp2_with fail
        go_quiet (fail)
        go_wp2_with fail
        go_quiet (fail)
        go_wp2_with fail
        go_roundg (j - (i + 1))
        case measure => omega
        case rel =>
          refine ⟨i + 1, hij, rfl, by rw [HSN.out, HZC.out], ?_⟩
          rw [show ((p : Int) + 1) = ((a + (i + 1) : Nat) : Int) from by rw [HP.out]; omega]
          exact hst.out.step _
      · obtain rfl : i = j := by omega
        by_cases hpl : p < S.size
        · obtain ⟨c, hc⟩ : ∃ c, sl[p]? = some c := ⟨_, List.getElem?_eq_getElem (by rw [← HSL.out]; exact hpl)⟩
          have hcc : S[p] = c := HGET.out p hpl c hc
          obtain ⟨z, hz⟩ : ∃ z : Int, z = ((S[p]'hpl).toNat : Int) := ⟨_, rfl⟩
          have hz2 := hz.symm
          have hdz : isDig c = decide (48 ≤ z ∧ z ≤ 57) := by rw [hz, hcc]; unfold isDig; rw [Bool.eq_iff_iff]; simp; omega
          by_cases h48 : 48 ≤ z
          · by_cases h57 : z ≤ 57
            · have hi6 : i = 6 := by
                rcases HJS.out with h | h | ⟨c', h1, h2⟩
                · exact h
                · rw [List.length_drop] at h; rw [HSL.out] at hpl; omega
                · rw [List.getElem?_drop, ← hp, hc] at h1
                  rw [← Option.some.inj h1, hdz] at h2
                  simp at h2; omega
              have hpa : ¬ ((p : Int) - a < 6) := by omega
              have hpd : decide ((p : Int) - a < 6) = false := by simp; omega
              clear hp hN hcc hz hc hdz hi6 hi
              go_wp2_with fail
              go_quiet (fail)
              go_wp2_with fail
              go_meet
              exact ⟨by rw [HN.out], (hst.out.1), hst.out.2.drewN _⟩
            · have h57d : decide (z ≤ 57) = false := by simpa using h57
              clear hp hN hcc hz hc hdz hi
              go_wp2_with fail
              go_quiet (fail)
              go_wp2_with fail
              go_meet
              exact ⟨by rw [HN.out], (hst.out.1), hst.out.2.drewN _⟩
          · have h48d : decide (48 ≤ z) = false := by simpa using h48
            clear hp hN hcc hz hc hdz hi
            go_wp2_with fail
            go_quiet (fail)
            go_wp2_with fail
            go_meet
            exact ⟨by rw [HN.out], (hst.out.1), hst.out.2.drewN _⟩
        · have hpd : decide (p < S.size) = false := by simpa using hpl
          clear hp hN hi
          go_wp2_with fail
          go_quiet (fail)
          go_wp2_with fail
          go_meet
          exact ⟨by rw [HN.out], (hst.out.1), hst.out.2.drewN _⟩
  case rest =>
    obtain ⟨rfl, hst⟩ := hcut
    obtain ⟨k0, k1, k2, kf⟩ := hst.1.cells
    obtain ⟨p, hp⟩ : ∃ p, p = a + j := ⟨_, rfl⟩
    rw [← hp] at k1 haj
    obtain ⟨N, hN⟩ : ∃ N, N = decVal ((sl.drop a).take j) := ⟨_, rfl⟩
    have hNl : N < 1000000 := by rw [hN]; exact decVal_take_lt (Nat.le_refl _) hj6 HJD.out
    rw [← hN]
    have hap : a ≤ p := by omega
    have HP := Lib.hid hp; have HN := Lib.hid hN; have HST := Lib.hid hst
    obtain ⟨G, hG⟩ : ∃ G, G = S.extract a p := ⟨_, rfl⟩
    have hGl : G.toList = (sl.drop a).take j := by
      rw [Lib.toList_data, hG, HSLE.out, ByteArray.data_extract, Array.toList_extract, List.extract_eq_take_drop, hp, Nat.add_sub_cancel_left]
    have hbox : ∀ W', Ch [W] w1 W' → W'.heap[w.heap.size]? = some (.cells #[.bool false, .string ⟨#[]⟩, .slice none 0 0] 50 (0, 0)) := by
      intro W' hc
      rw [hc.block w.heap.size (by rw [HZ.out]; omega) (by simp; intro h; have := HWL.out; omega), ← hw1]
      exact heap_alloc_new w _
    obtain ⟨BI, hBI⟩ : ∃ BI : ByteArray, BI = ⟨(Lib.itoa N).toArray⟩ := ⟨_, rfl⟩
    have hBl : BI.toList = Lib.itoa N := by rw [Lib.toList_data, hBI]
    have hb0 : Below w0.heap.size w0 wc := HB.out.trans ((HB1.out.mono HB.out.size).trans (below_of_ch hst.2 (by intro k hk; rw [show k = W from by simpa using hk]; exact hW) (Nat.le_trans HB.out.size HB1.out.size)))
    have hit : ∀ W', Below wc.heap.size wc W' → Calls Tryz.prog 71 #[.int .i64 N] W' (fun e w' => e = .returned (.string BI) ∧ Below W'.heap.size W' w') := by
      intro W' hW'
      have := itoa_any N W' (by omega) (HTAB.out.below (hb0.trans (hW'.mono hb0.size)))
      unfold strV at this
      rw [← hBI] at this
      exact this
    obtain ⟨ι, F, hF0, hFB, hFG⟩ := below_fam wc
    have hitF := calls_fam hFB hFG hit
    obtain ⟨b, hbe⟩ : ∃ b, b = w.heap.size := ⟨_, rfl⟩
    have hWb : W < b := by have := HWL.out; omega
    have hbad : ∀ W' v0 v1 v2, Ch [W] w1 W' → RdAt W S p 0 W' → textT (sl.drop a) = .error 5 → AtomTo w W S (textT (sl.drop a)) (.returned (.agg #[.bool false, .string ⟨#[]⟩, .slice none 0 0])) ((((W'.setCell ⟨W, 2, none⟩ (.int .i64 5)).setCell ⟨b, 0, none⟩ v0).setCell ⟨b, 1, none⟩ v1).setCell ⟨b, 2, none⟩ v2) := by
      intro W' v0 v1 v2 hc hr he
      rw [he]
      refine ⟨rfl, ⟨p, RdAt.other (RdAt.other (RdAt.other (hr.setFault 5) (by omega) _ _) (by omega) _ _) (by omega) _ _⟩, ?_⟩
      exact (((((Ch.of_below HB1.out _).trans hc (fun x hx => .inl hx)).setCell (.inl (by simp)) _).setCell (.inr (by simp; omega)) _).setCell (.inr (by simp; omega)) _).setCell (.inr (by simp; omega)) _
    rw [← hbe] at hbox ⊢
    have hst3 : RdAt W S p 0 wc := by rw [hp]; exact hst.1
    have hrF : ∀ n, RdAt W S p 0 (F n) := fun n => hst3.keep (hFB n)
    have hcF : ∀ n, Ch [W] w1 (F n) := fun n => hst.2.trans (Ch.of_below (hFB n) [W]) (fun x hx => .inl hx)
    have hne1 : ¬ (W = b) := by omega
    have hne2 : ¬ (b = W) := by omega
    have hbF : ∀ n, (F n).heap[b]? = some (.cells #[.bool false, .string ⟨#[]⟩, .slice none 0 0] 50 (0, 0)) := fun n => hbox (F n) (hcF n)
    have f0 := fun n => (hrF n).cells.1
    have f1 := fun n => (hrF n).cells.2.1
    have f2 := fun n => (hrF n).cells.2.2.1
    have ff := fun n i => (hrF n).cells.2.2.2 i
    have b0 : ∀ n, (F n).cell? ⟨b, 0, none⟩ = some (.bool false) := fun n => cell_of_heap (hbF n) 0
    have b1 : ∀ n, (F n).cell? ⟨b, 1, none⟩ = some (.string ⟨#[]⟩) := fun n => cell_of_heap (hbF n) 1
    have b2 : ∀ n, (F n).cell? ⟨b, 2, none⟩ = some (.slice none 0 0) := fun n => cell_of_heap (hbF n) 2
    have bf := fun n i => frozen_of_heap (hbF n) i
    have HITF := Lib.hid hitF; have HBAD := Lib.hid hbad; have HGL := Lib.hid hGl; have HBL := Lib.hid hBl; have HG := Lib.hid hG; have HBOX := Lib.hid hbox; have HBE := Lib.hid hbe; have HWB := Lib.hid hWb; have HRF := Lib.hid hrF; have HCF := Lib.hid hcF; have HF0 := Lib.hid hF0; have HFB := Lib.hid hFB; have HFG := Lib.hid hFG
    clear hst3 hrF hcF hbF hF0 hFB hFG hitF hb0 hp hN hst hit hbad hbox hGl hBl hBI hbe hw1 c0 c1 c2 cf
    go_wp2_with fail
    go_quiet (fail)
    go_wp2_with fail
    rw [← HG.out]
    clear hG
    obtain ⟨n0, hn0⟩ := HF0.out (nq + 1)
    have hne : Nonempty ι := ⟨n0⟩
    by_cases hj0 : j = 0
    · have hge : G.toList.isEmpty = true := by rw [HGL.out, hj0]; rfl
      have htx : textT (sl.drop a) = .error 5 := textT_bad hj6 HJL.out HJD.out HJS.out (.inl hj0)
      have HTX := Lib.hid htx; clear htx
      clear hj0
      refine wp_region_fam F n0 hn0 (by kernel_rfl) (by kernel_rfl) ?_
      repeat (go_big_quiet_step ((go_at_call 71; exact HITF.out _)))
      refine wpQuiet_nil ?_
      intro _ hw'
      obtain ⟨m0, hw''⟩ := hw'
      subst hw''
      go_wp2_with fail
      refine bodyPost_ret (by simp [results, Tryz.results73, go_sem, b0, b1, b2]; rfl) rfl ?_
      exact HBAD.out _ _ _ _ (HCF.out _) (HRF.out _) HTX.out
    · have hge : G.toList.isEmpty = false := by
        rw [HGL.out]
        have h1 : ((sl.drop a).take j).length = j := by rw [List.length_take, Nat.min_eq_left HJL.out]
        cases h2 : (sl.drop a).take j with
        | nil => rw [h2] at h1; exact absurd h1.symm hj0
        | cons c l => rfl
      by_cases hsame : G.toList = BI.toList
      · have hs1 : (G.toList == BI.toList) = true := by simpa using hsame
        have hs2 : (G.toList != BI.toList) = false := by simpa using hsame
        have hsm : Lib.itoa (decVal ((sl.drop a).take j) : Nat) = (sl.drop a).take j := by rw [← HN.out, ← HBL.out, ← hsame, HGL.out]
        have HSM := Lib.hid hsm
        clear hsame hsm
        by_cases hpe : p = S.size
        · have hpd : ((p : Int) == (S.size : Int)) = true := by simp [hpe]
          have htx : textT (sl.drop a) = .error 5 := textT_bad hj6 HJL.out HJD.out HJS.out (.inr (.inr (.inl (by rw [List.length_drop]; have h1 := HSL.out; have h2 := HP.out; omega))))
          have HTX := Lib.hid htx; clear htx
          clear hpe hj0
          refine wp_region_fam F n0 hn0 (by kernel_rfl) (by kernel_rfl) ?_
          repeat (go_big_quiet_step ((go_at_call 71; exact HITF.out _)))
          refine wpQuiet_nil ?_
          intro _ hw'
          obtain ⟨m0, hw''⟩ := hw'
          subst hw''
          go_wp2_with fail
          refine bodyPost_ret (by simp [results, Tryz.results73, go_sem, b0, b1, b2]; rfl) rfl ?_
          exact HBAD.out _ _ _ _ (HCF.out _) (HRF.out _) HTX.out
        · have hpd : ((p : Int) == (S.size : Int)) = false := by simp; omega
          have hpl : p < S.size := by omega
          obtain ⟨c, hc⟩ : ∃ c, sl[p]? = some c := ⟨_, List.getElem?_eq_getElem (by rw [← HSL.out]; exact hpl)⟩
          have hcc : S[p] = c := HGET.out p hpl c hc
          have hcj : (sl.drop a)[j]? = some c := by rw [List.getElem?_drop, ← HP.out]; exact hc
          obtain ⟨z, hz⟩ : ∃ z : Int, z = ((S[p]'hpl).toNat : Int) := ⟨_, rfl⟩
          have hz2 := hz.symm
          have hzc : z = (c.toNat : Int) := by rw [hz, hcc]
          clear hpe
          by_cases h58 : c = 58
          · have hz58 : z = 58 := by rw [hzc, h58]; rfl
            have hd58 : (z != 58) = false := by simp [hz58]
            have hd59 : (z == 58) = true := by simp [hz58]
            have HC58 := Lib.hid (show (sl.drop a)[j]? = some 58 from by rw [hcj, h58])
            clear hz hcc hzc hc hcj h58 hz58
            by_cases hNb : (S.size : Int) - p - 1 < N
            · have hNd : decide ((S.size : Int) - p - 1 < N) = true := by simpa using hNb
              have htx : textT (sl.drop a) = .error 5 := textT_bad hj6 HJL.out HJD.out HJS.out (.inr (.inr (.inr (.inr (by rw [List.length_drop, ← HN.out]; have h1 := HSL.out; have h2 := HP.out; omega)))))
              have HTX := Lib.hid htx; clear htx
              have hwa : IntKind.i64.wrap ((S.size : Int) - p) = (S.size : Int) - p := IntWalk.i64_in _ (by omega)
              have hwb : IntKind.i64.wrap ((S.size : Int) - p - 1) = (S.size : Int) - p - 1 := IntWalk.i64_in _ (by omega)
              refine wp_region_fam F n0 hn0 (by kernel_rfl) (by kernel_rfl) ?_
              repeat (go_big_quiet_step ((go_at_call 71; exact HITF.out _)))
              refine wpQuiet_nil ?_
              intro _ hw'
              obtain ⟨m0, hw''⟩ := hw'
              subst hw''
              go_wp2_with fail
              refine bodyPost_ret (by simp [results, Tryz.results73, go_sem, b0, b1, b2]; rfl) rfl ?_
              exact HBAD.out _ _ _ _ (HCF.out _) (HRF.out _) HTX.out
            · have hNd : decide ((S.size : Int) - p - 1 < N) = false := by simpa using hNb
              have htx := textT_good hj6 (by rw [List.length_drop]; have h1 := HSL.out; omega) HJD.out hj0 HSM.out HC58.out (by rw [List.length_drop, ← HN.out]; have h1 := HSL.out; have h2 := HP.out; omega)
              have HTX := Lib.hid htx; clear htx
              have hwa : IntKind.i64.wrap ((S.size : Int) - p) = (S.size : Int) - p := IntWalk.i64_in _ (by omega)
              have hwb : IntKind.i64.wrap ((S.size : Int) - p - 1) = (S.size : Int) - p - 1 := IntWalk.i64_in _ (by omega)
              refine wp_region_fam F n0 hn0 (by kernel_rfl) (by kernel_rfl) ?_
              repeat (go_big_quiet_step ((go_at_call 71; exact HITF.out _)))
              refine wpQuiet_nil ?_
              intro _ hw'
              obtain ⟨m0, hw''⟩ := hw'
              subst hw''
              go_wp2_with fail
              obtain ⟨r, hr⟩ : ∃ r, r = p + 1 := ⟨_, rfl⟩
              obtain ⟨q, hq⟩ : ∃ q, q = p + 1 + N := ⟨_, rfl⟩
              have hqS : q ≤ S.size := by omega
              have hrq : r ≤ q := by omega
              have hqr : (q : Int) - (N : Int) = (r : Int) := by omega
              have hww : IntKind.i64.wrap ((r : Nat) : Int) = (r : Int) := IntWalk.i64_in _ (by omega)
              have hrqI : (r : Int) ≤ (q : Int) := by omega
              have hqSI : (q : Int) ≤ (S.size : Int) := by omega
              have hr0I : (0 : Int) ≤ (r : Int) := by omega
              rw [show (p : Int) + (1 + (N : Int)) = ((q : Nat) : Int) from by omega]
              have hrd := (HRF.out m0).setAt q
              have hch : Ch [W] w1 ((F m0).setCell ⟨W, 1, none⟩ (.int .i64 q)) := (HCF.out m0).setCell (.inl (by simp)) _
              generalize (F m0).setCell ⟨W, 1, none⟩ (.int .i64 q) = wq at hrd hch ⊢
              have hbq := HBOX.out wq hch
              have q0 := hrd.cells.1
              have q1 := hrd.cells.2.1
              have p0 := cell_of_heap hbq 0
              have p1 := cell_of_heap hbq 1
              have p2 := cell_of_heap hbq 2
              have pf := frozen_of_heap hbq
              have hfin : ∀ w2 v0 v1 v2, Below wq.heap.size wq w2 → AtomTo w W S (textT (sl.drop a)) (.returned (.agg #[.bool true, .string (S.extract r q), .slice none 0 0])) (((w2.setCell ⟨b, 0, none⟩ v0).setCell ⟨b, 1, none⟩ v1).setCell ⟨b, 2, none⟩ v2) := by
                intro w2 v0 v1 v2 hb2
                have hN2 := HN.out
                rw [HTX.out, ← hN2]
                have hsl2 := HSL.out
                have hp2 := HP.out
                refine ⟨?_, ?_, ?_⟩
                · show _ = Ending.returned (.agg #[.bool true, strV (T.atom (.mk true (((sl.drop a).drop (j + 1)).take N) [])), .slice none 0 0])
                  have e : S.extract r q = ⟨(((sl.drop a).drop (j + 1)).take N).toArray⟩ := by
                    apply ByteArray.ext
                    apply Array.ext'
                    rw [ByteArray.data_extract, Array.toList_extract, List.extract_eq_take_drop, ← HSLE.out, List.drop_drop, hr, hq, hp2, show a + j + 1 + N - (a + j + 1) = N from by omega, show a + (j + 1) = a + j + 1 from by omega]
                  rw [e]; rfl
                · have hd2 : S.size - ((sl.drop a).drop (j + 1 + N)).length = q := by rw [List.length_drop, List.length_drop]; omega
                  rw [hd2]
                  exact RdAt.other (RdAt.other (RdAt.other (hrd.keep hb2) (by have := HWB.out; omega) _ _) (by have := HWB.out; omega) _ _) (by have := HWB.out; omega) _ _
                · have hbb := HBE.out
                  exact (((((Ch.of_below HB1.out _).trans hch (fun x hx => .inl hx)).trans (Ch.of_below hb2 []) (fun x hx => by cases hx)).setCell (.inr (by simp; omega)) _).setCell (.inr (by simp; omega)) _).setCell (.inr (by simp; omega)) _
              have HFIN := Lib.hid hfin; have HBQ := Lib.hid hbq; have HFRZ := Lib.hid (And.intro (lt_of_heap hbq) pf)
              clear hfin hbq hrd hch hr hq hwa hwb f0 f1 f2 ff b0 b1 b2 bf hn0 hj0
              go_region_held3 (fun w' => w'.cell? ⟨W, 0, none⟩ = some (.string S) ∧ w'.cell? ⟨W, 1, none⟩ = some (.int .i64 q)) (first | exact ⟨y0, y1⟩ | exact ⟨q0, q1⟩ | (constructor <;> (rw [World.cell?_setCell_far _ _ _ _ hne2, World.cell?_setCell_far _ _ _ _ hne2, World.cell?_setCell_far _ _ _ _ hne2]; first | exact y0 | exact y1)))
                (first | (go_at_call 22; refine (atom_any _ _).mono ?_; rintro e w2 ⟨rfl, hb2⟩; have y0 := below_keeps hb2 _ _ q0; have y1 := below_keeps hb2 _ _ q1; have z0 := below_keeps hb2 _ _ p0; have z1 := below_keeps hb2 _ _ p1; have z2 := below_keeps hb2 _ _ p2; have zf := fun i => (by rw [hb2.frozen (p := ⟨b, i, none⟩) HFRZ.out.1]; exact HFRZ.out.2 i : w2.frozen? ⟨b, i, none⟩ = false); have HB2 : Hid (Below wq.heap.size wq w2) := Lib.hid ⟨hb2.os, hb2.tape, hb2.output, hb2.size, hb2.block⟩; clear hb2))
              all_goals
                go_wp2_with fail
                refine bodyPost_ret (by simp [results, Tryz.results73, go_sem, z0, z1, z2]; rfl) rfl ?_
                exact HFIN.out _ _ _ _ HB2.out
          · have hd58 : (z != 58) = true := by simp; rw [hzc]; intro h; apply h58; apply UInt8.toNat.inj; simp; omega
            have hd59 : (z == 58) = false := by simpa using hd58
            have htx : textT (sl.drop a) = .error 5 := textT_bad hj6 HJL.out HJD.out HJS.out (.inr (.inr (.inr (.inl ⟨c, hcj, h58⟩))))
            have HTX := Lib.hid htx; clear htx
            clear hz hcc hzc hc hcj h58
            refine wp_region_fam F n0 hn0 (by kernel_rfl) (by kernel_rfl) ?_
            repeat (go_big_quiet_step ((go_at_call 71; exact HITF.out _)))
            refine wpQuiet_nil ?_
            intro _ hw'
            obtain ⟨m0, hw''⟩ := hw'
            subst hw''
            go_wp2_with fail
            refine bodyPost_ret (by simp [results, Tryz.results73, go_sem, b0, b1, b2]; rfl) rfl ?_
            exact HBAD.out _ _ _ _ (HCF.out _) (HRF.out _) HTX.out
      · have hs1 : (G.toList == BI.toList) = false := by simpa using hsame
        have hs2 : (G.toList != BI.toList) = true := by simpa using hsame
        have htx : textT (sl.drop a) = .error 5 := textT_bad hj6 HJL.out HJD.out HJS.out (.inr (.inl (by rw [← HN.out, ← HBL.out, ← HGL.out]; exact fun h => hsame h.symm)))
        have HTX := Lib.hid htx; clear htx
        clear hsame hj0
        refine wp_region_fam F n0 hn0 (by kernel_rfl) (by kernel_rfl) ?_
        repeat (go_big_quiet_step ((go_at_call 71; exact HITF.out _)))
        refine wpQuiet_nil ?_
        intro _ hw'
        obtain ⟨m0, hw''⟩ := hw'
        subst hw''
        go_wp2_with fail
        refine bodyPost_ret (by simp [results, Tryz.results73, go_sem, b0, b1, b2]; rfl) rfl ?_
        exact HBAD.out _ _ _ _ (HCF.out _) (HRF.out _) HTX.out
end Go.Proofs.YtjcimajkjnjdpabGreatDoor
