/- DERIVED. The law TreeKeeps, walked. -/
import Derived.Test.YtjcimajkjnjdpaaGreatDoorTreeAlive
import Derived.Test.YtjcimajkjnjdpaaGreatDoorTreeGreat
import Derived.Test.YtjcimajkjnjdpaaGreatDoorTreeRefPut
import Derived.Test.YtjcimajkjnjdpaaGreatDoorTreeLaw
import Derived.Test.YtjcimajkjnjdpaaGreatDoorTreeFile
import Derived.Test.YtjcimajkjnjdpaaGreatDoorTreeTab
import Derived.Deep.DeepCutAuto
import Derived.Deep.RegionHeld3
namespace Go.Proofs.YtjcimajkjnjdpaaGreatDoor
open Go.RowKit
set_option linter.unusedVariables false
set_option maxRecDepth 100000

def spareF : Pr := ([115, 112, 97, 114, 101], [114, 111, 111, 109])
theorem owns_at {W : World} {A base : Nat} {t : TypeId} (h : W.heap[A]? = some (.cells #[] t (0, 0))) (hb : base ≤ A) : W.ownsRow base t 2 (.slice (some ⟨A, 0, none⟩) 0 0) 0 [] :=
  ⟨rfl, .inr ⟨A, 0, #[], rfl, hb, h, Nat.le_refl _, by unfold maxLen; omega, rfl, rfl⟩⟩
theorem below_draw {n : Nat} {w w' : World} (h : Below n w w') : Below n w w'.drew := ⟨h.os, h.tape, h.output, h.size, h.block⟩
/-- The three worlds in which 'append([]File{}, list...)' may come up. -/
structure Orders (w : World) (S : Obj) : Prop where
  b1 : Below w.heap.size w (w.alloc (.cells #[] 41)).drew
  b2 : Below w.heap.size w ((w.alloc (.cells #[] 41)).alloc S).drew
  b3 : Below w.heap.size w ((w.alloc S).alloc (.cells #[] 41)).drew
  o1 : ((w.alloc (.cells #[] 41)).drew).ownsRow w.heap.size 41 2 (.slice (some ⟨w.heap.size, 0, none⟩) 0 0) 0 []
  o2 : (((w.alloc (.cells #[] 41)).alloc S).drew).ownsRow w.heap.size 41 2 (.slice (some ⟨w.heap.size, 0, none⟩) 0 0) 0 []
  o3 : (((w.alloc S).alloc (.cells #[] 41)).drew).ownsRow w.heap.size 41 2 (.slice (some ⟨w.heap.size + 1, 0, none⟩) 0 0) 0 []
  s2 : (((w.alloc (.cells #[] 41)).alloc S).drew).heap[w.heap.size + 1]? = some S
  s3 : (((w.alloc S).alloc (.cells #[] 41)).drew).heap[w.heap.size]? = some S
theorem orders_mk (w : World) (S : Obj) : Orders w S := by
  have hz : ∀ o, (w.alloc o).heap.size = w.heap.size + 1 := fun o => by simp
  have h2 := heap_alloc_new (w.alloc (.cells #[] 41)) S
  have h3 := heap_alloc_new (w.alloc S) (.cells #[] 41)
  rw [hz] at h2 h3
  exact ⟨below_draw ((Below.refl _ _).alloc (Nat.le_refl _) _), below_draw (((Below.refl _ _).alloc (Nat.le_refl _) _).alloc (by simp) _), below_draw (((Below.refl _ _).alloc (Nat.le_refl _) _).alloc (by simp) _),
    owns_at (heap_alloc_new w _) (Nat.le_refl _), owns_at ((Below.heap_alloc _ _ _ (by simp)).trans (heap_alloc_new w _)) (Nat.le_refl _), owns_at h3 (by omega),
    h2, (Below.heap_alloc _ _ _ (by simp)).trans (heap_alloc_new w S)⟩
theorem ord_grow {w0 w' w'' : World} {e : TypeId} {a : Option Addr} {n c m : Nat} {vs : List Value} (ho : w'.ownsRow w0.heap.size e m (.slice a n c) n vs) (hb : Below w0.heap.size w0 w') (hg : w'.grownBy w'' (Value.slice a n c).ownBlock) : Below w0.heap.size w0 w'' :=
  ⟨hg.os.trans hb.os, hg.tape.trans hb.tape, hg.output.trans hb.output, Nat.le_trans hb.size hg.size, fun g hlt => (hg.block g (Nat.lt_of_lt_of_le hlt hb.size) (fun e => by have := owns_ge ho g e.symm; omega)).trans (hb.block g hlt)⟩
set_option maxHeartbeats 16000000 in
theorem keeps_law (w : World) (a : Option Addr) (c : Nat) (ps : List Pr) (f : Pr) (hr : RdFl w a ps) (hs : Sl a ps.length c) (hsz : Sz ps)
    (hf1 : f.1.length ≤ 140737488351232) (hf2 : f.2.length ≤ 140737488351232) (htab : Tab w) :
    Calls Tryz.prog 5 #[.slice a ps.length c, .agg #[strV f.1, strV f.2]] w (fun e w' => e = .returned (.bool true) ∧ Below w.heap.size w w') := by
  obtain ⟨n, hnn⟩ : ∃ n, n = ps.length := ⟨_, rfl⟩
  have hG := fun W (h : Below w.heap.size w W) => great_any W a c ps (hr.below h) hsz
  have hnl : n ≤ 4398046511104 := by rw [hnn]; exact hsz.len
  rw [← hnn] at hG ⊢
  have hsf : Sz [f] := ⟨fun p hp => by obtain rfl := List.mem_singleton.1 hp; exact ⟨hf1, hf2⟩, by simp⟩
  obtain ⟨S1, hS1⟩ : ∃ S : ByteArray, S = ⟨f.1.toArray⟩ := ⟨_, rfl⟩
  obtain ⟨S2, hS2⟩ : ∃ S : ByteArray, S = ⟨f.2.toArray⟩ := ⟨_, rfl⟩
  have hsv : strV f.1 = .string S1 ∧ strV f.2 = .string S2 := ⟨by rw [hS1]; rfl, by rw [hS2]; rfl⟩
  rw [hsv.1, hsv.2]
  obtain ⟨w1, hw1, hb1, hx1, y1, y2⟩ := new_two w (.string S1) (.string S2) 41
  obtain ⟨Bf, hBf⟩ : ∃ b, w.heap.size = b := ⟨_, rfl⟩
  rw [hBf] at hx1
  have hkeep : ∀ W, Below w1.heap.size w1 W → W.heap[Bf]? = some (.cells #[.string S1, .string S2] 41 (0, 0)) := fun W h => (h.block _ (by omega)).trans hx1
  have HR := Lib.hid hr; have HS := Lib.hid hs; have HN := Lib.hid hnn; have HG := Lib.hid hG; have HT := Lib.hid htab
  have HB := Lib.hid hb1; have HKEEP := Lib.hid hkeep; have HSF := Lib.hid hsf; have HSV := Lib.hid hsv; have HS1 := Lib.hid hS1
  clear hr hs hnn hG hsz htab hb1 hx1 y1 y2 hkeep hsf hsv hS1 hS2 hf1 hf2
  have HEND := Lib.hid (show ∀ W, Below w1.heap.size w1 W → Below w.heap.size w W from fun W h => HB.out.trans (h.mono HB.out.size))
  have HENDB := Lib.hid (show ∀ W, Below w1.heap.size w1 W → Below Bf w W from fun W h => by have := HB.out.trans (h.mono HB.out.size); rw [hBf] at this; exact this)
  go_enter Tryz.func5, Tryz.ntmps5
  go_wp2_with fail
  refine (alive_any _ (HT.out.below HB.out)).mono ?_
  rintro e w4 ⟨rfl, h4⟩
  have H4 := Lib.hid h4
  clear h4
  go_wp2_with fail
  refine (HG.out w4 (HEND.out _ H4.out)).mono ?_
  rintro e w6 ⟨b1, rfl, hsm, h5⟩
  have H6 := Lib.hid (H4.out.trans (h5.mono H4.out.size)); have HSM := Lib.hid hsm
  clear h5 hsm
  cases b1
  case true =>
    go_wp2_with fail
    go_ret
    first | exact ⟨rfl, HEND.out _ H6.out⟩ | exact ⟨rfl, HENDB.out _ H6.out⟩
  have k3 := cell_of_heap (HKEEP.out w6 H6.out) 0
  have k4 := cell_of_heap (HKEEP.out w6 H6.out) 1
  obtain ⟨w7, hw7, hb7, hx7, _, _⟩ := new_two w6 (.string S1) (.string S2) 41
  have hx7' := hx7
  rw [← HSV.out.1, ← HSV.out.2] at hx7'
  have HGF := Lib.hid (great_any w7 (some ⟨w6.heap.size, 0, none⟩) 1 [f] (rdFl_one hx7') HSF.out)
  have H7 := Lib.hid (H6.out.trans (hb7.mono H6.out.size))
  clear hb7 hx7 hx7'
  go_wp2_with fail
  refine HGF.out.mono ?_
  rintro e w8 ⟨b3, rfl, hsm, h8⟩
  have H8 := Lib.hid (H7.out.trans (h8.mono H7.out.size)); have HSMF := Lib.hid hsm
  clear h8 hsm k3 k4
  cases b3
  case true =>
    go_wp2_with fail
    go_ret
    first | exact ⟨rfl, HEND.out _ H8.out⟩ | exact ⟨rfl, HENDB.out _ H8.out⟩
  have hn200 : n ≤ 200 := by rw [HN.out]; exact (HSM.out (by trivial)).len
  have hea : ∀ p ∈ ps, p.1.length ≤ 400000 := fun p hp => by have := ((HSM.out (by trivial)).each p hp).1; omega
  have hfl : f.1.length ≤ 400000 := by have := ((HSMF.out (by trivial)).each f (by simp)).1; omega
  obtain ⟨i0, hi, hz0, hz1, hz2⟩ := info_three infoFile
  have HI := Lib.hid (And.intro hi (And.intro hz0 (And.intro hz1 hz2)))
  have HEA := Lib.hid (And.intro hea hfl)
  clear hi hz0 hz1 hz2 hea hfl
  obtain ⟨SP, hSP⟩ : ∃ S : ByteArray, S = ⟨#[115, 112, 97, 114, 101]⟩ := ⟨_, rfl⟩
  obtain ⟨RM, hRM⟩ : ∃ S : ByteArray, S = ⟨#[114, 111, 111, 109]⟩ := ⟨_, rfl⟩
  obtain ⟨w9, hw9, hb9, hx9, hz9, _⟩ := new_two w8 (.string ⟨#[115, 112, 97, 114, 101]⟩) (.string ⟨#[114, 111, 111, 109]⟩) 41
  have H9 := Lib.hid (H8.out.trans (hb9.mono H8.out.size))
  rw [← hSP, ← hRM] at hx9
  have HX9 := Lib.hid hx9
  have y0 := cell_of_heap hx9 0
  have y1 := cell_of_heap hx9 1
  have hsrc := fun W (h : Below w9.heap.size w9 W) => (HR.out.below (HEND.out _ (H9.out.trans (h.mono H9.out.size)))).src (c := c) (fun e => by
    have := HS.out.nil e
    exact ⟨List.eq_nil_of_length_eq_zero this.1, this.2⟩)
  rw [← HN.out] at hsrc
  have HSRC := Lib.hid hsrc
  have HOR := Lib.hid (orders_mk w9 (.cells #[.string SP, .string RM] 41))
  have HSP := Lib.hid hSP; have HRM := Lib.hid hRM
  have hlt9 := lt_of_heap hx9
  clear hb9 hx9 hsrc hSP hRM hz9
  go_upto_region 6 with fail
  go_cut [6] (fun x wx => ∃ a6 c6, x = .slice a6 (n + 1) c6 ∧ Hid (OwnFl wx w9.heap.size a6 c6 (ps ++ [spareF])) ∧ Hid (Below w9.heap.size w9 wx))
  case first =>
    go_region_held3 (fun W : World => W.cell? ⟨w8.heap.size, 0, none⟩ = some (.string SP) ∧ W.cell? ⟨w8.heap.size, 1, none⟩ = some (.string RM)) (first | exact ⟨y0, y1⟩ | exact ⟨v0, v1⟩ | exact ⟨z0, z1⟩ | go_keep) (first | (refine step_append_srcs rfl (.tmp 29) (.tmp 30) 22 22 rfl w9.heap.size 41 i0 _ 2 32 Tryz.underlying22 HI.out.1 HI.out.2.1 HI.out.2.2.1 HI.out.2.2.2 rfl (by decide) _ (by simp [Act.eval]; done) 0 [] HOR.out.o1 _ (by simp [Act.eval]; done) _ _ (HSRC.out _ HOR.out.b1) (by unfold maxLen; omega) (by omega) HOR.out.b1.size ?_; intro a' c' w' hown hgrow _ hblk; simp only [Nat.zero_add, List.nil_append] at hown; have hbg := ord_grow HOR.out.o1 HOR.out.b1 hgrow; have v0 := below_keeps hbg _ _ y0; have v1 := below_keeps hbg _ _ y1; have HOW1 := Lib.hid (ownsRow_keep hown (w' := w'.alloc (.cells #[.string SP, .string RM] 41)) (fun g hg => Below.heap_alloc w' _ g (owns_lt hown g hg))); have HSR1 := Lib.hid (pr_src (heap_alloc_new w' (.cells #[.string SP, .string RM] 41)) rfl rfl); have HBG1 := Lib.hid (hbg.alloc hbg.size (.cells #[.string SP, .string RM] 41)); clear hown hgrow hblk hbg) | (refine step_append_srcs rfl (.tmp 29) (.tmp 30) 22 22 rfl w9.heap.size 41 i0 _ 2 32 Tryz.underlying22 HI.out.1 HI.out.2.1 HI.out.2.2.1 HI.out.2.2.2 rfl (by decide) _ (by simp [Act.eval]; done) 0 [] HOR.out.o2 _ (by simp [Act.eval]; done) _ _ (HSRC.out _ HOR.out.b2) (by unfold maxLen; omega) (by omega) HOR.out.b2.size ?_; intro a' c' w' hown hgrow _ hblk; simp only [Nat.zero_add, List.nil_append] at hown; have hbg := ord_grow HOR.out.o2 HOR.out.b2 hgrow; have v0 := below_keeps hbg _ _ y0; have v1 := below_keeps hbg _ _ y1; have HOW2 := Lib.hid hown; have HSR2 := Lib.hid (pr_src ((hgrow.block _ (lt_of_heap HOR.out.s2) (by simp [Value.ownBlock])).trans HOR.out.s2) rfl rfl); have HBG2 := Lib.hid hbg; clear hown hgrow hblk hbg) | (refine step_append_srcs rfl (.tmp 29) (.tmp 30) 22 22 rfl w9.heap.size 41 i0 _ 2 32 Tryz.underlying22 HI.out.1 HI.out.2.1 HI.out.2.2.1 HI.out.2.2.2 rfl (by decide) _ (by simp [Act.eval]; done) 0 [] HOR.out.o3 _ (by simp [Act.eval]; done) _ _ (HSRC.out _ HOR.out.b3) (by unfold maxLen; omega) (by omega) HOR.out.b3.size ?_; intro a' c' w' hown hgrow _ hblk; simp only [Nat.zero_add, List.nil_append] at hown; have hbg := ord_grow HOR.out.o3 HOR.out.b3 hgrow; have v0 := below_keeps hbg _ _ y0; have v1 := below_keeps hbg _ _ y1; have HOW3 := Lib.hid hown; have HSR3 := Lib.hid (pr_src ((hgrow.block _ (lt_of_heap HOR.out.s3) (by simp [Value.ownBlock])).trans HOR.out.s3) rfl rfl); have HBG3 := Lib.hid hbg; clear hown hgrow hblk hbg) | (refine step_append_srcs rfl (.tmp 31) (.tmp 33) 22 22 rfl w9.heap.size 41 i0 _ 2 32 Tryz.underlying22 HI.out.1 HI.out.2.1 HI.out.2.2.1 HI.out.2.2.2 rfl (by decide) _ (by simp [Act.eval]; done) n _ HOW1.out _ (by simp [Act.eval]; done) _ _ HSR1.out (by unfold maxLen; omega) (by omega) HBG1.out.size ?_; intro a'' c'' w'' hown hgrow _ hblk; have HOWN2 := Lib.hid hown; have hb2 := ord_grow HOW1.out HBG1.out hgrow; have z0 := below_keeps hb2 _ _ y0; have z1 := below_keeps hb2 _ _ y1; have HG2 := Lib.hid hb2; clear hb2 hown hgrow hblk) | (refine step_append_srcs rfl (.tmp 31) (.tmp 33) 22 22 rfl w9.heap.size 41 i0 _ 2 32 Tryz.underlying22 HI.out.1 HI.out.2.1 HI.out.2.2.1 HI.out.2.2.2 rfl (by decide) _ (by simp [Act.eval]; done) n _ HOW2.out _ (by simp [Act.eval]; done) _ _ HSR2.out (by unfold maxLen; omega) (by omega) HBG2.out.size ?_; intro a'' c'' w'' hown hgrow _ hblk; have HOWN2 := Lib.hid hown; have hb2 := ord_grow HOW2.out HBG2.out hgrow; have z0 := below_keeps hb2 _ _ y0; have z1 := below_keeps hb2 _ _ y1; have HG2 := Lib.hid hb2; clear hb2 hown hgrow hblk) | (refine step_append_srcs rfl (.tmp 31) (.tmp 33) 22 22 rfl w9.heap.size 41 i0 _ 2 32 Tryz.underlying22 HI.out.1 HI.out.2.1 HI.out.2.2.1 HI.out.2.2.2 rfl (by decide) _ (by simp [Act.eval]; done) n _ HOW3.out _ (by simp [Act.eval]; done) _ _ HSR3.out (by unfold maxLen; omega) (by omega) HBG3.out.size ?_; intro a'' c'' w'' hown hgrow _ hblk; have HOWN2 := Lib.hid hown; have hb2 := ord_grow HOW3.out HBG3.out hgrow; have z0 := below_keeps hb2 _ _ y0; have z1 := below_keeps hb2 _ _ y1; have HG2 := Lib.hid hb2; clear hb2 hown hgrow hblk))
    all_goals
      go_wp2_with fail
      go_meet
      exact ⟨a'', c'', rfl, show OwnFl _ _ _ _ _ from by unfold OwnFl; rw [List.length_append, ← HN.out]; exact pair_snoc (g := spareF) HOWN2.out HSP.out HRM.out, HG2⟩
  obtain ⟨a6, c6, rfl, hown6, hbc⟩ := hcut
  obtain ⟨W6, hW6⟩ : ∃ W, W = wc := ⟨_, rfl⟩
  subst hW6
  rcases OwnRow.of_owns hown6.out with ⟨_, h0, _⟩ | ⟨g, rfl, hg, hrow, hlc, hcm⟩
  · simp at h0
  have hnc : n + 1 ≤ c6 := by rw [List.length_append, ← HN.out] at hlc; exact hlc
  have hfr : RdFl W6 (some ⟨g, 0, none⟩) ps := fun hne => by
    obtain ⟨b, o, e, h1, h2⟩ := hrow.fl.rd (by simp)
    exact ⟨b, o, e, h1, fun i p hi => h2 i p (by rw [List.getElem?_append_left (List.getElem?_eq_some_iff.1 hi).1]; exact hi)⟩
  have hgl := hrow.fl.lt
  have HB9 := Lib.hid (H9.out.trans (hbc.out.mono H9.out.size))
  have hM := make_any W6 (some ⟨g, 0, none⟩) c6 ps hfr ⟨fun e => by cases e⟩ (by rw [← HN.out]; omega) HEA.out.1
  have hP := fun W (h : Below W6.heap.size W6 W) => put_tree W (some ⟨g, 0, none⟩) c6 ps f (hfr.below h) ⟨fun e => by cases e⟩ (by rw [← HN.out]; omega) HEA.out.1 HEA.out.2
  have hC := fun W (h : Below W6.heap.size W6 W) => cut_tree W (some ⟨g, 0, none⟩) c6 ps ⟨#[]⟩ (hfr.below h) ⟨fun e => by cases e⟩ (by rw [← HN.out]; omega) HEA.out.1 (by decide)
  have hl1 := makeT_le ps
  have hl2 : (putT2 ps f).2.length ≤ ps.length + 1 := by
    unfold putT2
    split
    · have h1 := makeT_le (ps.filter (fun g => g.1 != f.1) ++ [f])
      have h2 := List.length_filter_le (fun g : Pr => g.1 != f.1) ps
      simp at h1
      omega
    · simp
  have hl3 : (cutT ps []).2.length ≤ ps.length := by
    unfold cutT
    split
    · split
      · have h1 := makeT_le (cutL [] ps)
        have h2 : (cutL [] ps).length ≤ ps.length := List.length_filterMap_le _ _
        omega
      · simp
    · simp
  have hRM := fun W (h : Below w1.heap.size w1 W) => rmake_any W a c ps (HR.out.below (HEND.out _ h)) (by rw [← HN.out]; omega) HEA.out.1
  have hRP := fun W (h : Below w1.heap.size w1 W) => rput_any W a c ps f (HR.out.below (HEND.out _ h)) HS.out (by rw [← HN.out]; omega) HEA.out.1 HEA.out.2
  cases hx1 : makeT ps with
  | mk x1 r1 =>
  cases hx2 : putT2 ps f with
  | mk x2 r2 =>
  cases hx3 : cutT ps [] with
  | mk x3 r3 =>
  rw [hx1] at hM hRM hl1
  rw [hx2, HSV.out.1, HSV.out.2] at hP hRP
  rw [hx2] at hl2
  rw [hx3] at hC hl3
  rw [← HN.out] at hM hP hC hl1 hl2 hl3 hRM hRP
  unfold MakeTo at hM hP hC hRM hRP
  dsimp only at hM hP hC hl1 hl2 hl3 hRM hRP
  obtain ⟨n1, hn1⟩ : ∃ k, k = r1.length := ⟨_, rfl⟩
  obtain ⟨n2, hn2⟩ : ∃ k, k = r2.length := ⟨_, rfl⟩
  obtain ⟨n3, hn3⟩ : ∃ k, k = r3.length := ⟨_, rfl⟩
  rw [← hn1] at hM hRM hl1
  rw [← hn2] at hP hRP hl2
  rw [← hn3] at hC hl3
  have HM := Lib.hid hM; have HP := Lib.hid hP; have HC := Lib.hid hC; have HN1 := Lib.hid hn1; have HN2 := Lib.hid hn2; have HN3 := Lib.hid hn3; have HROW := Lib.hid hrow; have HRM2 := Lib.hid hRM; have HRP2 := Lib.hid hRP
  have HGL := Lib.hid (And.intro hg hgl)
  clear hM hP hC hn1 hn2 hn3 hx1 hx2 hx3 hrow hfr hlc hcm hg hgl y0 y1 hRM hRP
  go_wp2_with fail
  refine HM.out.mono ?_
  rintro e wt0 ⟨a7, c7, rfl, hrow7, h7⟩
  obtain ⟨wt, hwt, hbt, hxt, z1, z2⟩ := new_cell wt0 (.slice a7 n1 c7) 26
  have HBT := Lib.hid (h7.trans (hbt.mono h7.size))
  have HXT := Lib.hid hxt; have HR7 := Lib.hid (hrow7.below hbt)
  have HZT := Lib.hid (show W6.heap.size ≤ wt0.heap.size ∧ wt0.heap.size < wt.heap.size by have := h7.size; omega)
  have k3 := cell_of_heap (HKEEP.out wt (HB9.out.trans (HBT.out.mono HB9.out.size))) 0
  have k4 := cell_of_heap (HKEEP.out wt (HB9.out.trans (HBT.out.mono HB9.out.size))) 1
  have HBF := Lib.hid (lt_of_heap (HKEEP.out wt (HB9.out.trans (HBT.out.mono HB9.out.size))))
  clear h7 hrow7 hbt hxt z1 z2
  go_upto_region 8 with fail
  go_cut [9] (fun x wx => ∃ B9 a8 c8, x = .pointer (some ⟨B9, 0, none⟩) ∧ Hid (wx.heap[B9]? = some (.cells #[.slice a8 n2 c8] 26 (0, 0))) ∧ Hid (RowAt wx wt.heap.size a8 c8 r2) ∧ Hid (Below wt.heap.size wt wx) ∧ wt.heap.size ≤ B9)
  case first =>
    have HD1 := Lib.hid (below_draw (Below.refl wt.heap.size wt))
    have HD2 := Lib.hid (below_draw ((Below.refl wt.heap.size wt).alloc (Nat.le_refl _) (.cells #[.slice none 0 0] 26)))
    have hcz : ((wt.alloc (.cells #[.slice none 0 0] 26)).drew).heap[wt.heap.size]? = some (.cells #[.slice none 0 0] 26 (0, 0)) := heap_alloc_new wt _
    have HCZ := Lib.hid hcz
    have HZA := Lib.hid (show (wt.alloc (.cells #[.slice none 0 0] 26)).drew.heap.size = wt.heap.size + 1 from by show (wt.alloc _).heap.size = _; simp)
    have hi1 : (n : Int) ≤ (c6 : Int) := by omega
    have hi2 : (0 : Int) ≤ (n : Int) := by omega
    have hi3 : n ≤ c6 := by omega
    have hnf : wt.heap.size ≠ Bf := Nat.ne_of_gt HBF.out
    clear hcz
    go_region_held3 (fun W : World => W.cell? ⟨Bf, 0, none⟩ = some (.string S1) ∧ W.cell? ⟨Bf, 1, none⟩ = some (.string S2)) (first | exact ⟨k3, k4⟩ | exact ⟨v0, v1⟩ | (constructor <;> (rw [World.cell?_setCell_far _ _ _ _ hnf]; first | exact v0 | exact v1)) | go_keep) (first | (go_at_call 18; refine (HP.out _ (HBT.out.trans (HD1.out.mono HBT.out.size))).mono ?_; rintro e w' ⟨a8, c8, rfl, hrow8, h8'⟩; have hb := HD1.out.trans (h8'.mono HD1.out.size); have v0 := below_keeps hb _ _ k3; have v1 := below_keeps hb _ _ k4; have HBP1 := Lib.hid hb; have HRP := Lib.hid (hrow8.base HD1.out.size); clear hrow8 h8' hb) | (go_at_call 18; refine (HP.out _ (HBT.out.trans (HD2.out.mono HBT.out.size))).mono ?_; rintro e w' ⟨a8, c8, rfl, hrow8, h8'⟩; have hb := HD2.out.trans (h8'.mono HD2.out.size); have v0 := below_keeps hb _ _ k3; have v1 := below_keeps hb _ _ k4; have HBP2 := Lib.hid hb; have hrow9 := hrow8; rw [HZA.out] at hrow9; have HRP2 := Lib.hid hrow9; clear hrow9; have hcx := (h8'.block _ (lt_of_heap HCZ.out)).trans HCZ.out; have t0 := cell_of_heap hcx 0; have tf := frozen_of_heap hcx; have HCX := Lib.hid hcx; clear hrow8 h8' hb hcx))
    all_goals
      go_wp2_with fail
      go_meet
      first | exact ⟨w'.heap.size, a8, c8, rfl, heap_alloc_new w' _, HRP.out.below ((Below.refl _ _).alloc (Nat.le_refl _) _), HBP1.out.alloc HBP1.out.size _, HBP1.out.size⟩ | exact ⟨wt.heap.size, a8, c8, rfl, heap_setCell_here (i := 0) _ HCX.out, (HRP2.out.keep (fun x hx _ => Below.heap_setCell _ _ _ _ (by simp; omega))).base (by omega), HBP2.out.setCell (p := ⟨wt.heap.size, 0, none⟩) (Nat.le_refl _) _, Nat.le_refl _⟩
  obtain ⟨B9, a8, c8, rfl, hx9u, hr8, hbu, hB9⟩ := hcut
  obtain ⟨wu, hwu⟩ : ∃ W, W = wc := ⟨_, rfl⟩
  subst hwu
  have hB9l := lt_of_heap hx9u.out
  have HBU := Lib.hid (HBT.out.trans (hbu.out.mono HBT.out.size))
  go_wp2_with fail
  refine (HC.out wu HBU.out).mono ?_
  rintro e wv0 ⟨a9, c9, rfl, hrow9, h9⟩
  obtain ⟨wv, hwv, hbv, hxv, z1, z2⟩ := new_cell wv0 (.slice a9 n3 c9) 26
  have hbv2 := h9.trans (hbv.mono h9.size)
  have HBV := Lib.hid hbv2
  have HBV6 := Lib.hid (HBU.out.trans (hbv2.mono HBU.out.size))
  have HB9V := Lib.hid (hbc.out.trans (HBV6.out.mono hbc.out.size))
  have hxv2 := hxv
  have HXV := Lib.hid hxv2; have HR9 := Lib.hid (hrow9.below hbv)
  have HR90 := Lib.hid hrow9
  have HZV := Lib.hid (show wu.heap.size ≤ wv0.heap.size ∧ wv0.heap.size < wv.heap.size ∧ wv.heap.size ≤ wv0.heap.size + 1 by have := h9.size; omega)
  have y0 := below_keeps HB9V.out _ _ (cell_of_heap HX9.out 0)
  have y1 := below_keeps HB9V.out _ _ (cell_of_heap HX9.out 1)
  have HSRC10 := Lib.hid (show ∀ W, Below wv.heap.size wv W → Src Tryz.prog 2 22 (.slice a n c) n (pairsV ps) W from fun W h => HSRC.out W (HB9V.out.trans (h.mono HB9V.out.size)))
  have HOR10 := Lib.hid (orders_mk wv (.cells #[.string SP, .string RM] 41))
  have HLEN := Lib.hid (show (ps ++ [spareF]).length = n + 1 by rw [List.length_append, ← HN.out]; rfl)
  have HMINE := Lib.hid (show ∀ W, Below wv.heap.size wv W → OwnRow W g c6 (ps ++ [spareF]) from fun W h => HROW.out.keep ((HBV6.out.trans (h.mono HBV6.out.size)).block g HGL.out.2))
  clear h9 hrow9 hbv hxv hxv2 z1 z2 hbv2 k3 k4
  go_upto_region 10 with fail
  go_cut [72] (fun x wx => x = .bool false ∧ Hid (Below wv.heap.size wv wx))
  case first =>
    go_region_held3 (fun W : World => W.cell? ⟨w8.heap.size, 0, none⟩ = some (.string SP) ∧ W.cell? ⟨w8.heap.size, 1, none⟩ = some (.string RM)) (first | exact ⟨y0, y1⟩ | exact ⟨v0, v1⟩ | exact ⟨z0, z1⟩ | exact ⟨s0, s1⟩ | go_keep) (first | (refine step_append_srcs rfl (.tmp 64) (.tmp 65) 22 22 rfl wv.heap.size 41 i0 _ 2 32 Tryz.underlying22 HI.out.1 HI.out.2.1 HI.out.2.2.1 HI.out.2.2.2 rfl (by decide) _ (by simp [Act.eval]; done) 0 [] HOR10.out.o1 _ (by simp [Act.eval]; done) _ _ (HSRC10.out _ HOR10.out.b1) (by unfold maxLen; omega) (by omega) HOR10.out.b1.size ?_; intro a' c' w' hown hgrow _ hblk; simp only [Nat.zero_add, List.nil_append] at hown; have hbg := ord_grow HOR10.out.o1 HOR10.out.b1 hgrow; have v0 := below_keeps hbg _ _ y0; have v1 := below_keeps hbg _ _ y1; have HOW1 := Lib.hid (ownsRow_keep hown (w' := w'.alloc (.cells #[.string SP, .string RM] 41)) (fun g hg => Below.heap_alloc w' _ g (owns_lt hown g hg))); have HSR1 := Lib.hid (pr_src (heap_alloc_new w' (.cells #[.string SP, .string RM] 41)) rfl rfl); have HBG1 := Lib.hid (hbg.alloc hbg.size (.cells #[.string SP, .string RM] 41)); clear hown hgrow hblk hbg) | (refine step_append_srcs rfl (.tmp 64) (.tmp 65) 22 22 rfl wv.heap.size 41 i0 _ 2 32 Tryz.underlying22 HI.out.1 HI.out.2.1 HI.out.2.2.1 HI.out.2.2.2 rfl (by decide) _ (by simp [Act.eval]; done) 0 [] HOR10.out.o2 _ (by simp [Act.eval]; done) _ _ (HSRC10.out _ HOR10.out.b2) (by unfold maxLen; omega) (by omega) HOR10.out.b2.size ?_; intro a' c' w' hown hgrow _ hblk; simp only [Nat.zero_add, List.nil_append] at hown; have hbg := ord_grow HOR10.out.o2 HOR10.out.b2 hgrow; have v0 := below_keeps hbg _ _ y0; have v1 := below_keeps hbg _ _ y1; have HOW2 := Lib.hid hown; have HSR2 := Lib.hid (pr_src ((hgrow.block _ (lt_of_heap HOR10.out.s2) (by simp [Value.ownBlock])).trans HOR10.out.s2) rfl rfl); have HBG2 := Lib.hid hbg; clear hown hgrow hblk hbg) | (refine step_append_srcs rfl (.tmp 64) (.tmp 65) 22 22 rfl wv.heap.size 41 i0 _ 2 32 Tryz.underlying22 HI.out.1 HI.out.2.1 HI.out.2.2.1 HI.out.2.2.2 rfl (by decide) _ (by simp [Act.eval]; done) 0 [] HOR10.out.o3 _ (by simp [Act.eval]; done) _ _ (HSRC10.out _ HOR10.out.b3) (by unfold maxLen; omega) (by omega) HOR10.out.b3.size ?_; intro a' c' w' hown hgrow _ hblk; simp only [Nat.zero_add, List.nil_append] at hown; have hbg := ord_grow HOR10.out.o3 HOR10.out.b3 hgrow; have v0 := below_keeps hbg _ _ y0; have v1 := below_keeps hbg _ _ y1; have HOW3 := Lib.hid hown; have HSR3 := Lib.hid (pr_src ((hgrow.block _ (lt_of_heap HOR10.out.s3) (by simp [Value.ownBlock])).trans HOR10.out.s3) rfl rfl); have HBG3 := Lib.hid hbg; clear hown hgrow hblk hbg) | (refine step_append_srcs rfl (.tmp 66) (.tmp 68) 22 22 rfl wv.heap.size 41 i0 _ 2 32 Tryz.underlying22 HI.out.1 HI.out.2.1 HI.out.2.2.1 HI.out.2.2.2 rfl (by decide) _ (by simp [Act.eval]; done) n _ HOW1.out _ (by simp [Act.eval]; done) _ _ HSR1.out (by unfold maxLen; omega) (by omega) HBG1.out.size ?_; intro a'' c'' w'' hown hgrow _ hblk; have HOWN2 := Lib.hid hown; have hb2 := ord_grow HOW1.out HBG1.out hgrow; have z0 := below_keeps hb2 _ _ y0; have z1 := below_keeps hb2 _ _ y1; have hsm := same_any w'' (some ⟨g, 0, none⟩) a'' c6 c'' (ps ++ [spareF]) (ps ++ [spareF]) ((HMINE.out w'' hb2).fl.rd) (owns_rd (show OwnFl w'' wv.heap.size a'' c'' (ps ++ [spareF]) from by unfold OwnFl; rw [HLEN.out]; exact pair_snoc (g := spareF) hown HSP.out HRM.out)) (by rw [HLEN.out]; omega) (by rw [HLEN.out]; omega); rw [decide_eq_true rfl, HLEN.out] at hsm; have HSA := Lib.hid hsm; have HG2 := Lib.hid hb2; clear hsm hb2 hown hgrow hblk) | (refine step_append_srcs rfl (.tmp 66) (.tmp 68) 22 22 rfl wv.heap.size 41 i0 _ 2 32 Tryz.underlying22 HI.out.1 HI.out.2.1 HI.out.2.2.1 HI.out.2.2.2 rfl (by decide) _ (by simp [Act.eval]; done) n _ HOW2.out _ (by simp [Act.eval]; done) _ _ HSR2.out (by unfold maxLen; omega) (by omega) HBG2.out.size ?_; intro a'' c'' w'' hown hgrow _ hblk; have HOWN2 := Lib.hid hown; have hb2 := ord_grow HOW2.out HBG2.out hgrow; have z0 := below_keeps hb2 _ _ y0; have z1 := below_keeps hb2 _ _ y1; have hsm := same_any w'' (some ⟨g, 0, none⟩) a'' c6 c'' (ps ++ [spareF]) (ps ++ [spareF]) ((HMINE.out w'' hb2).fl.rd) (owns_rd (show OwnFl w'' wv.heap.size a'' c'' (ps ++ [spareF]) from by unfold OwnFl; rw [HLEN.out]; exact pair_snoc (g := spareF) hown HSP.out HRM.out)) (by rw [HLEN.out]; omega) (by rw [HLEN.out]; omega); rw [decide_eq_true rfl, HLEN.out] at hsm; have HSA := Lib.hid hsm; have HG2 := Lib.hid hb2; clear hsm hb2 hown hgrow hblk) | (refine step_append_srcs rfl (.tmp 66) (.tmp 68) 22 22 rfl wv.heap.size 41 i0 _ 2 32 Tryz.underlying22 HI.out.1 HI.out.2.1 HI.out.2.2.1 HI.out.2.2.2 rfl (by decide) _ (by simp [Act.eval]; done) n _ HOW3.out _ (by simp [Act.eval]; done) _ _ HSR3.out (by unfold maxLen; omega) (by omega) HBG3.out.size ?_; intro a'' c'' w'' hown hgrow _ hblk; have HOWN2 := Lib.hid hown; have hb2 := ord_grow HOW3.out HBG3.out hgrow; have z0 := below_keeps hb2 _ _ y0; have z1 := below_keeps hb2 _ _ y1; have hsm := same_any w'' (some ⟨g, 0, none⟩) a'' c6 c'' (ps ++ [spareF]) (ps ++ [spareF]) ((HMINE.out w'' hb2).fl.rd) (owns_rd (show OwnFl w'' wv.heap.size a'' c'' (ps ++ [spareF]) from by unfold OwnFl; rw [HLEN.out]; exact pair_snoc (g := spareF) hown HSP.out HRM.out)) (by rw [HLEN.out]; omega) (by rw [HLEN.out]; omega); rw [decide_eq_true rfl, HLEN.out] at hsm; have HSA := Lib.hid hsm; have HG2 := Lib.hid hb2; clear hsm hb2 hown hgrow hblk) | (go_at_call 11; refine HSA.out.mono ?_; rintro e w3 ⟨rfl, h3⟩; have hb3 := HG2.out.trans (h3.mono HG2.out.size); have s0 := below_keeps hb3 _ _ y0; have s1 := below_keeps hb3 _ _ y1; have HG3 := Lib.hid hb3; clear h3 hb3))
    all_goals
      go_wp2_with fail
      go_meet
      exact ⟨rfl, HG3⟩
  obtain ⟨rfl, hbs⟩ := hcut
  obtain ⟨ws, hws⟩ : ∃ W, W = wc := ⟨_, rfl⟩
  subst hws
  clear y0 y1
  have HMS := Lib.hid (HMINE.out ws hbs.out)
  go_wp2_with fail
  go_loopw [75] (fun x wr => ∃ (k : Nat) (qs : List Pr), x = .int .i64 k ∧ k ≤ n + 1 ∧ Hid (qs.length = n + 1) ∧ Hid (OwnRow wr g c6 qs) ∧ Hid (Ch [g] ws wr)) (fun x _ => n + 1 - (intOf x).toNat)
  case atStart => exact ⟨0, _, rfl, Nat.zero_le _, HLEN, HMS, Ch.refl _ _⟩
  case round =>
    obtain ⟨k, qs, rfl, hkn, hql, hro, hch⟩ := hrel
    by_cases hlt : k < n + 1
    · obtain ⟨p, hp⟩ : ∃ p, qs[k]? = some p := ⟨_, List.getElem?_eq_getElem (by rw [hql.out]; exact hlt)⟩
      obtain ⟨p0, p1⟩ := hro.out.fl.cell hp
      have fz := hro.out.fl.frozen
      have hput := hro.out.put (k := k) (by rw [hql.out]; exact hlt) ([], [])
      have HPUT := Lib.hid hput
      have HCH := Lib.hid ((hch.out.setCell (p := ⟨g, k * 2, none⟩) (.inl (by simp)) (strV [])).setCell (p := ⟨g, k * 2 + 1, none⟩) (.inl (by simp)) (strV []))
      have HQL := Lib.hid (show (qs.set k ([], [])).length = n + 1 by rw [List.length_set]; exact hql.out)
      obtain ⟨P1, hP1⟩ : ∃ x : ByteArray, strV p.1 = .string x := ⟨_, rfl⟩
      obtain ⟨P2, hP2⟩ : ∃ x : ByteArray, strV p.2 = .string x := ⟨_, rfl⟩
      rw [hP1] at p0; rw [hP2] at p1
      clear hp hput hP1 hP2
      go_wp2_with fail
      go_roundw
      case rel => exact ⟨k + 1, _, by go_num, hlt, HQL, HPUT, HCH⟩
      case measure => simp [intOf]; omega
    · obtain rfl : k = n + 1 := by omega
      have hb1 : Below w9.heap.size w9 wr := (HB9V.out.trans (hbs.out.mono HB9V.out.size)).trans (ch_below hch.out HGL.out.1 (Nat.le_trans HB9V.out.size hbs.out.size))
      have HB1R := Lib.hid hb1
      have hfix : ∀ x, W6.heap.size ≤ x → x < wv.heap.size → wr.heap[x]? = wv.heap[x]? := fun x h1 h2 => (hch.out.block x (Nat.lt_of_lt_of_le h2 hbs.out.size) (by have := HGL.out.2; simp; omega)).trans (hbs.out.block x h2)
      have HFIX := Lib.hid hfix
      have hxr := (hfix wv0.heap.size (by have := HZV.out; have := HBU.out.size; omega) HZV.out.2.1).trans HXV.out
      have HSZ := Lib.hid (Nat.le_trans hbs.out.size hch.out.size)
      obtain ⟨S, hS1, hS2⟩ : ∃ S : List Nat, (∀ x ∈ S, wu.heap.size ≤ x ∧ x < wv0.heap.size) ∧ ((r3 = []) ∨ ∃ gv, a9 = some ⟨gv, 0, none⟩ ∧ gv ∈ S ∧ FlRow wr gv r3) := by
        rcases HR90.out with ⟨_, h, _⟩ | ⟨gv, h1, h2, h3⟩
        · exact ⟨[], by simp, .inl h⟩
        · have hl := h3.lt
          refine ⟨[gv], by simp; exact ⟨h2, hl⟩, .inr ⟨gv, h1, by simp, ?_⟩⟩
          rcases HR9.out with ⟨h5, _, _⟩ | ⟨gv', h5, h6, h7⟩
          · rw [h1] at h5; cases h5
          · rw [h1] at h5
            obtain rfl : gv = gv' := by have := Option.some.inj h5; simpa using this
            exact h7.keep (hfix gv (by have := HBU.out.size; omega) (by have := HZV.out; omega))
      have HS1' := Lib.hid hS1; have HXR := Lib.hid hxr; have HS2' := Lib.hid hS2
      have k5 := cell_of_heap hxr 0
      clear hb1 hfix hS1 hxr hS2 hro hql hch
      go_wp2_with fail
      clear k5
      obtain ⟨wl, hwl⟩ : ∃ W, W = wr := ⟨_, rfl⟩
      subst hwl
      go_loopw [86] (fun x wr => ∃ (k : Nat) (qs : List Pr), x = .int .i64 k ∧ k ≤ n3 ∧ Hid (qs.length = n3) ∧ Hid ((qs = []) ∨ ∃ gv, a9 = some ⟨gv, 0, none⟩ ∧ gv ∈ S ∧ FlRow wr gv qs) ∧ Hid (Ch S wl wr)) (fun x _ => n3 - (intOf x).toNat)
      case atStart => exact ⟨0, r3, rfl, Nat.zero_le _, HN3.out.symm, HS2', Ch.refl _ _⟩
      case round =>
        obtain ⟨k, qs, rfl, hkn3, hql, hro, hch⟩ := hrel
        have hxr2 := (hch.out.block wv0.heap.size (lt_of_heap HXR.out) (fun hm => by have := (HS1'.out _ hm).2; omega)).trans HXR.out
        have k5 := cell_of_heap hxr2 0
        by_cases hlt : k < n3
        · obtain ⟨p, hp⟩ : ∃ p, qs[k]? = some p := ⟨_, List.getElem?_eq_getElem (by rw [hql.out]; exact hlt)⟩
          rcases hro.out with h | ⟨gv, rfl, hgv, hfl⟩
          · rw [h] at hp; cases hp
          obtain ⟨p0, p1⟩ := hfl.cell hp
          have fz := hfl.frozen
          have hput := hfl.put (k := k) (by rw [hql.out]; exact hlt) ([], [])
          have HPUT := Lib.hid hput
          have HCH := Lib.hid ((hch.out.setCell (p := ⟨gv, k * 2, none⟩) (.inl hgv) (strV [])).setCell (p := ⟨gv, k * 2 + 1, none⟩) (.inl hgv) (strV []))
          have HQL := Lib.hid (show (qs.set k ([], [])).length = n3 by rw [List.length_set]; exact hql.out)
          have HGV := Lib.hid hgv
          obtain ⟨P1, hP1⟩ : ∃ x : ByteArray, strV p.1 = .string x := ⟨_, rfl⟩
          obtain ⟨P2, hP2⟩ : ∃ x : ByteArray, strV p.2 = .string x := ⟨_, rfl⟩
          rw [hP1] at p0; rw [hP2] at p1
          clear hp hput hP1 hP2 hfl hgv hxr2
          go_wp2_with fail
          go_roundw
          case rel => exact ⟨k + 1, _, by go_num, hlt, HQL, .inr ⟨gv, rfl, HGV.out, HPUT.out⟩, HCH⟩
          case measure => simp [intOf]; omega
        · obtain rfl : k = n3 := by omega
          have hsu : w9.heap.size ≤ W6.heap.size ∧ W6.heap.size ≤ wu.heap.size ∧ wt.heap.size ≤ wu.heap.size ∧ W6.heap.size ≤ wt.heap.size := ⟨hbc.out.size, HBU.out.size, hbu.out.size, HBT.out.size⟩
          have hb2 : Below w9.heap.size w9 wr := HB1R.out.trans (below_of_ch hch.out (fun x hx => by have := (HS1'.out x hx).1; omega) HB1R.out.size)
          have hF : Below w1.heap.size w1 wr := H9.out.trans (hb2.mono H9.out.size)
          have hfix2 : ∀ x, W6.heap.size ≤ x → x < wu.heap.size → wr.heap[x]? = wu.heap[x]? := fun x h1 h2 =>
            (hch.out.block x (by have := HSZ.out; have := HBV.out.size; omega) (fun hm => by have := (HS1'.out x hm).1; omega)).trans ((HFIX.out x h1 (by have := HBV.out.size; omega)).trans (HBV.out.block x h2))
          obtain ⟨z1, z2⟩ := HZT.out
          have hxt := (hfix2 wt0.heap.size z1 (by omega)).trans ((hbu.out.block wt0.heap.size z2).trans HXT.out)
          have hrt : RowAt wr W6.heap.size a7 c7 r1 := HR7.out.keep (fun x h1 h2 => (hfix2 x h1 (by omega)).trans (hbu.out.block x h2))
          have hxu := (hfix2 B9 (by omega) hB9l).trans hx9u.out
          have hru : RowAt wr wt.heap.size a8 c8 r2 := hr8.out.keep (fun x h1 h2 => hfix2 x (by omega) h2)
          have HF := Lib.hid hF; have HXT2 := Lib.hid hxt; have HRT := Lib.hid hrt; have HXU := Lib.hid hxu; have HRU := Lib.hid hru
          clear hsu hb2 hF hfix2 z1 z2 hxt hrt hxu hru hxr2 hql hro hch
          go_wp2_with fail
          refine (HRM2.out wr HF.out).mono ?_
          rintro e wA0 ⟨a10, c10, rfl, hrow10, h10⟩
          obtain ⟨wA, hwA, hbA, hxA, _, _⟩ := new_cell wA0 (.slice a10 n1 c10) 26
          have hbA2 := h10.trans (hbA.mono h10.size)
          have HBA := Lib.hid hbA2; have HXA := Lib.hid hxA; have HRA := Lib.hid (hrow10.below hbA)
          have HFA := Lib.hid (HF.out.trans (hbA2.mono HF.out.size))
          have k3 := cell_of_heap (HKEEP.out wA HFA.out) 0
          have k4 := cell_of_heap (HKEEP.out wA HFA.out) 1
          clear h10 hrow10 hbA hxA hbA2 k5
          go_wp2_with fail
          refine (HRP2.out wA HFA.out).mono ?_
          rintro e wB0 ⟨a12, c12, rfl, hrow12, h12⟩
          obtain ⟨wB, hwB, hbB, hxB, _, _⟩ := new_cell wB0 (.slice a12 n2 c12) 26
          have hbB2 := h12.trans (hbB.mono h12.size)
          have hxA2 := (hbB2.block _ (lt_of_heap HXA.out)).trans HXA.out
          have hAB := HBA.out.trans (hbB2.mono HBA.out.size)
          have hxT := (hAB.block _ (lt_of_heap HXT2.out)).trans HXT2.out
          have hxU := (hAB.block _ (lt_of_heap HXU.out)).trans HXU.out
          have HFB := Lib.hid (HFA.out.trans (hbB2.mono HFA.out.size))
          have hsm := same_any wB a7 a10 c7 c10 r1 r1 (HRT.out.below hAB).rd (HRA.out.below hbB2).rd (by have := HN1.out; omega) (by have := HN1.out; omega)
          rw [decide_eq_true rfl, ← HN1.out] at hsm
          have hsm2 := fun W (h : Below wB.heap.size wB W) => same_any W a8 a12 c8 c12 r2 r2 ((HRU.out.below hAB).below h).rd ((hrow12.below hbB).below h).rd (by have := HN2.out; omega) (by have := HN2.out; omega)
          rw [decide_eq_true rfl, ← HN2.out] at hsm2
          have HSA := Lib.hid hsm; have HSB := Lib.hid hsm2
          have q1 := cell_of_heap hxT 0
          have q2 := cell_of_heap hxA2 0
          have HQ3 := Lib.hid hxU; have HQ4 := Lib.hid hxB
          clear k3 k4 h12 hrow12 hbB hxB hbB2 hxA2 hAB hxT hxU hsm hsm2
          go_wp2_with fail
          refine HSA.out.mono ?_
          rintro e wC ⟨rfl, h13⟩
          have q3 := cell_of_heap ((h13.block _ (lt_of_heap HQ3.out)).trans HQ3.out) 0
          have q4 := cell_of_heap ((h13.block _ (lt_of_heap HQ4.out)).trans HQ4.out) 0
          have HC13 := Lib.hid h13
          clear h13 q1 q2
          go_wp2_with fail
          refine (HSB.out wC HC13.out).mono ?_
          rintro e wD ⟨rfl, h14⟩
          have HFD := Lib.hid (HFB.out.trans ((HC13.out.trans (h14.mono HC13.out.size)).mono HFB.out.size))
          clear h14 q3 q4
          go_wp2_with fail
          go_ret
          first | exact ⟨rfl, HEND.out _ HFD.out⟩ | exact ⟨rfl, HENDB.out _ HFD.out⟩
end Go.Proofs.YtjcimajkjnjdpaaGreatDoor
