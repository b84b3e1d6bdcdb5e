/- DERIVED. The law TreeOrders, walked. -/
import Derived.Test.YtjcimajkjnjdpaaDoorTreeAlive
import Derived.Test.YtjcimajkjnjdpaaDoorTreeGreat
import Derived.Test.YtjcimajkjnjdpaaDoorTreeArg
import Derived.Test.YtjcimajkjnjdpaaDoorSexpTab
import Derived.Test.YtjcimajkjnjdpaaDoorTreeLaw
import Derived.Test.YtjcimajkjnjdpaaDoorSortSwap
import Derived.Deep.DeepCutAuto
namespace Go.Proofs.YtjcimajkjnjdpaaDoor
open Go.RowKit
set_option linter.unusedVariables false

section
set_option maxRecDepth 100000
theorem tab_of_laid5 {w : World} (h : laidMetH Tryd.prog [("math/bits.deBruijn32tab", Rows.laid_math_bits_deBruijn32tab), ("math/bits.deBruijn64tab", Rows.laid_math_bits_deBruijn64tab), ("internal/strconv.uint64pow10", Rows.laid_internal_strconv_uint64pow10), ("unicode/utf8.acceptRanges", Rows.laid_unicode_utf8_acceptRanges), ("unicode/utf8.first", Rows.laid_unicode_utf8_first)] w) : Tab w := by
  rw [MakeChecks.laidMetH_plain _ _ _ (by kernel_rfl)] at h
  have h3 := h.tail.tail
  have e : (Rows.laid_internal_strconv_uint64pow10 : DataW Unit) = Lib.tabData .u64 Lib.pow10Tab := by kernel_rfl
  rw [e] at h3
  exact Lib.tabIs_of_head (g := 3) (t := 126) (e := 96) (n := 20) (by kernel_rfl) (by kernel_rfl) Tryd.underlying126 Tryd.underlying96 (by kernel_rfl) (by kernel_rfl) h3
end
theorem rotF_perm (ps : List Pr) (k : Nat) : (ps.drop k ++ ps.take k).Perm ps := by
  have h : (ps.drop k ++ ps.take k).Perm (ps.take k ++ ps.drop k) := List.perm_append_comm
  rwa [List.take_append_drop] at h
theorem fsrc_drop {w : World} {a : Option Addr} {ps : List Pr} {n k : Nat} (hr : RdFl w a ps) (hn : n = ps.length) (hk : k ≤ n) (x : Addr) (hx : k < n → ∀ b o, a = some ⟨b, o, none⟩ → x = ⟨b, o + k * 2, none⟩) (c : Nat) : Src Tryd.prog 2 22 (.slice (some x) (n - k) c) (n - k) (pairsV (ps.drop k)) w := by
  subst hn
  refine Src.ofSlice w Tryd.underlying22 x (ps.length - k) c _ (by rw [pairsV_length, List.length_drop]) (fun j u hj => ?_) (pairsV_one _)
  obtain ⟨i, p, hp, hu⟩ := pairsV_get _ j u hj
  rw [List.getElem?_drop] at hp
  have hil := (List.getElem?_eq_some_iff.1 hp).1
  obtain ⟨b, o, rfl, _, h3⟩ := hr (fun e => by rw [e] at hp; cases hp)
  rw [hx (by omega) b o rfl, Addr.add_lit]
  obtain ⟨h4, h5⟩ := h3 _ p hp
  rcases hu with ⟨rfl, rfl⟩ | ⟨rfl, rfl⟩
  · rw [show o + k * 2 + i * 2 = o + (k + i) * 2 by omega]; exact h4
  · rw [show o + k * 2 + (i * 2 + 1) = o + (k + i) * 2 + 1 by omega]; exact h5
theorem fsrc_take {w : World} {a : Option Addr} {ps : List Pr} {n k : Nat} (hr : RdFl w a ps) (hn : n = ps.length) (hk : k ≤ n) (x : Addr) (ha : a = some x) (c : Nat) : Src Tryd.prog 2 22 (.slice (some x) k c) k (pairsV (ps.take k)) w := by
  subst hn
  refine Src.ofSlice w Tryd.underlying22 x k c _ (by rw [pairsV_length, List.length_take]; omega) (fun j u hj => ?_) (pairsV_one _)
  obtain ⟨i, p, hp, hu⟩ := pairsV_get _ j u hj
  rw [List.getElem?_take] at hp
  split at hp
  · obtain ⟨b, o, e, _, h3⟩ := hr (fun e => by rw [e] at hp; cases hp)
    rw [ha] at e
    obtain rfl := Option.some.inj e
    obtain ⟨h4, h5⟩ := h3 _ p hp
    rw [Addr.add_lit]
    rcases hu with ⟨rfl, rfl⟩ | ⟨rfl, rfl⟩
    · exact h4
    · exact h5
  · cases hp
theorem ord_grow {w0 w' w'' : World} {e : TypeId} {a : Option Addr} {n c m : Nat} {vs : List Value} (ho : w'.ownsRow w0.heap.size e m (.slice a n c) n vs) (hb : Below w0.heap.size w0 w') (hg : w'.grownBy w'' (Value.slice a n c).ownBlock) : Below w0.heap.size w0 w'' :=
  ⟨hg.os.trans hb.os, hg.tape.trans hb.tape, hg.output.trans hb.output, Nat.le_trans hb.size hg.size, fun g hlt => (hg.block g (Nat.lt_of_lt_of_le hlt hb.size) (fun e => by have := owns_ge ho g e.symm; omega)).trans (hb.block g hlt)⟩
set_option maxRecDepth 100000 in
set_option maxHeartbeats 16000000 in
theorem orders_law (w : World) (a : Option Addr) (c : Nat) (ps : List Pr) (at_ : Int) (hr : RdFl w a ps) (hs : Sl a ps.length c) (hcap : ps.length ≤ c) (hcm : c ≤ 4398046511104) (hsz : Sz ps) (htab : Tab w) :
    Calls Tryd.prog 3 #[.slice a ps.length c, .int .i64 at_] w (fun e w' => e = .returned (.bool true) ∧ Below w.heap.size w w') := by
  obtain ⟨n, hnn⟩ : ∃ n, n = ps.length := ⟨_, rfl⟩
  have hG := fun W (h : Below w.heap.size w W) => great_any W a c ps (hr.below h) hsz
  have hnl : n ≤ 4398046511104 := by rw [hnn]; exact hsz.len
  rw [← hnn] at hcap ⊢
  rw [← hnn] at hG
  have HR := Lib.hid hr; have HS := Lib.hid hs; have HN := Lib.hid hnn; have HG := Lib.hid hG; have HT := Lib.hid htab
  clear hr hs hnn hG hsz htab
  go_enter Tryd.func3, Tryd.ntmps3
  go_wp2_with fail
  refine (alive_any _ HT.out).mono ?_
  rintro e w1 ⟨rfl, h1⟩
  have H1 := Lib.hid h1; clear h1
  go_wp2_with fail
  refine (HG.out w1 H1.out).mono ?_
  rintro e w2 ⟨b, rfl, hsm, h2⟩
  have H2 := Lib.hid (H1.out.trans (h2.mono H1.out.size)); have HSM := Lib.hid hsm
  clear h2 hsm
  cases b
  case true =>
    go_wp2_with fail
    go_ret
    exact ⟨rfl, H2.out⟩
  have hsm := HSM.out rfl
  have hn200 : n ≤ 200 := by rw [HN.out]; exact hsm.len
  have HSM2 := Lib.hid hsm
  clear hsm
  by_cases h0 : at_ < 0
  · go_wp2_with fail
    go_ret
    exact ⟨rfl, H2.out⟩
  by_cases hbig : (n : Int) < at_
  · go_wp2_with fail
    go_ret
    exact ⟨rfl, H2.out⟩
  obtain ⟨k, rfl⟩ : ∃ k : Nat, at_ = k := ⟨at_.toNat, by omega⟩
  have hkn : k ≤ n := by omega
  have hkc : k ≤ c := by omega
  obtain ⟨i0, hi, hz0, hz1, hz2⟩ := info_three infoFile
  have HI := Lib.hid (And.intro hi (And.intro hz0 (And.intro hz1 hz2)))
  clear hi hz0 hz1 hz2
  go_upto_region 6 with fail
  go_cut [5] (fun x wx => ∃ a5 c5, x = .slice a5 (n - k) c5 ∧ Hid (OwnFl wx w2.heap.size a5 c5 (ps.drop k)) ∧ Hid (Below w2.heap.size w2 wx))
  case first =>
    cases a with
    | none =>
      obtain ⟨hn0, rfl⟩ := HS.out.nil rfl
      obtain rfl : n = 0 := HN.out.trans hn0
      obtain rfl : k = 0 := by omega
      have HS0 := Lib.hid (Src.ofNil (P := Tryd.prog) (size := 2) w2 Tryd.underlying22 0)
      have HPS := Lib.hid (List.eq_nil_of_length_eq_zero hn0)
      clear hn0
      go_wp2_with (at_builtin; refine wpList_append_srcs rfl (.tmp 30) (.tmp 33) 22 22 rfl w2.heap.size 26 i0 _ 2 32 Tryd.underlying22 HI.out.1 HI.out.2.1 HI.out.2.2.1 HI.out.2.2.2 rfl (by decide) (.slice none 0 0) rfl 0 [] (World.ownsRow_nil _ _ _ _) (.slice none 0 0) rfl 0 [] HS0.out (by unfold maxLen; omega) (by omega) (Nat.le_refl _) ?_; intro a' c' w' hown hgrow hnil _; have e := hnil.2 ⟨rfl, rfl⟩; obtain ⟨rfl, _, rfl⟩ := Value.slice.inj e; have HG1 := Lib.hid (ord_grow (World.ownsRow_nil w2 w2.heap.size 26 2) (Below.refl _ _) hgrow); clear hown hgrow hnil e)
      go_meet
      exact ⟨none, 0, rfl, by rw [show ps = [] from HPS.out]; exact World.ownsRow_nil _ _ _ _, HG1⟩
    | some x =>
      obtain ⟨y, hy⟩ : ∃ y, y = if c = k then x else x.add (k * 2) := ⟨_, rfl⟩
      have hif : (if c = k then some x else some (x.add (k * 2))) = some y := by rw [hy]; split <;> rfl
      have hs1 := fsrc_drop (HR.out.below H2.out) HN.out hkn y (fun hlt b o e => by
        obtain rfl := Option.some.inj e
        rw [hy, if_neg (by omega), Addr.add_lit]) (c - k)
      have HS1 := Lib.hid hs1
      clear hs1 hy
      go_wp2_with (at_builtin; refine wpList_append_srcs rfl (.tmp 30) (.tmp 33) 22 22 rfl w2.heap.size 26 i0 _ 2 32 Tryd.underlying22 HI.out.1 HI.out.2.1 HI.out.2.2.1 HI.out.2.2.2 rfl (by decide) (.slice none 0 0) rfl 0 [] (World.ownsRow_nil _ _ _ _) (.slice (some y) (n - k) (c - k)) rfl (n - k) _ HS1.out (by unfold maxLen; omega) (by omega) (Nat.le_refl _) ?_; intro a' c' w' hown hgrow hnil _; simp only [Nat.zero_add, List.nil_append] at hown; have HOWN := Lib.hid hown; have HG1 := Lib.hid (ord_grow (World.ownsRow_nil w2 w2.heap.size 26 2) (Below.refl _ _) hgrow); clear hown hgrow hnil)
      go_meet
      exact ⟨a', c', by first | rfl | rw [Nat.zero_add], by unfold OwnFl; rw [List.length_drop, ← HN.out]; exact HOWN.out, HG1⟩
  obtain ⟨a3, c3, rfl, hr3, hb3⟩ := hcut
  go_upto_region 7 with fail
  go_cut [5] (fun x wx => ∃ a5 c5, x = .slice a5 n c5 ∧ Hid (OwnFl wx w2.heap.size a5 c5 (ps.drop k ++ ps.take k)) ∧ Hid (Below w2.heap.size w2 wx))
  case first =>
    have hown3 : wc.ownsRow w2.heap.size 26 2 (.slice a3 (n - k) c3) (n - k) (pairsV (ps.drop k)) := by
      have := hr3.out
      unfold OwnFl at this
      rw [List.length_drop, ← HN.out] at this
      exact this
    have HOWN3 := Lib.hid hown3
    have hnk : n - k + k = n := by omega
    have hlen2 : (ps.drop k ++ ps.take k).length = n := by have := HN.out; simp; omega
    have HL := Lib.hid (And.intro hnk hlen2)
    clear hown3 hnk hlen2
    cases a with
    | none =>
      obtain ⟨hn0, rfl⟩ := HS.out.nil rfl
      obtain rfl : n = 0 := HN.out.trans hn0
      obtain rfl : k = 0 := by omega
      have HS0 := Lib.hid (Src.ofNil (P := Tryd.prog) (size := 2) wc Tryd.underlying22 0)
      have HPS := Lib.hid (List.eq_nil_of_length_eq_zero hn0)
      clear hn0
      go_wp2_with (at_builtin; refine wpList_append_srcs rfl (.tmp 35) (.tmp 38) 22 22 rfl w2.heap.size 26 i0 _ 2 32 Tryd.underlying22 HI.out.1 HI.out.2.1 HI.out.2.2.1 HI.out.2.2.2 rfl (by decide) _ rfl _ _ HOWN3.out (.slice none 0 0) rfl 0 [] HS0.out (by unfold maxLen; omega) (by omega) hb3.out.size ?_; intro a' c' w' hown hgrow hnil _; have HOWN := Lib.hid hown; have HG1 := Lib.hid (ord_grow HOWN3.out hb3.out hgrow); clear hown hgrow hnil)
      go_meet
      refine ⟨a', c', rfl, ?_, HG1⟩
      have := HOWN.out
      rw [show ps = [] from HPS.out] at this ⊢
      exact this
    | some x =>
      have hs2 := fsrc_take ((HR.out.below H2.out).below hb3.out) HN.out hkn x rfl c
      have HS2 := Lib.hid hs2
      clear hs2
      go_wp2_with (at_builtin; refine wpList_append_srcs rfl (.tmp 35) (.tmp 38) 22 22 rfl w2.heap.size 26 i0 _ 2 32 Tryd.underlying22 HI.out.1 HI.out.2.1 HI.out.2.2.1 HI.out.2.2.2 rfl (by decide) _ rfl (n - k) _ HOWN3.out (.slice (some x) k c) rfl k _ HS2.out (by unfold maxLen; omega) (by omega) hb3.out.size ?_; intro a' c' w' hown hgrow hnil _; have HOWN := Lib.hid hown; have HG1 := Lib.hid (ord_grow HOWN3.out hb3.out hgrow); clear hown hgrow hnil)
      go_meet
      have ho2 := HOWN.out
      rw [HL.out.1, ← pairsV_append] at ho2
      exact ⟨a', c', by first | rfl | rw [HL.out.1], by unfold OwnFl; rw [HL.out.2]; exact ho2, HG1⟩
  clear hr3 hb3
  obtain ⟨a5, c5, rfl, hr5, hbc⟩ := hcut
  have hrow0 := Lib.hid (owns_rowAt hr5.out)
  have hpm0 := Lib.hid (rotF_perm ps k)
  clear hr5 hkc hbig
  go_wp2_with fail
  go_loopw [6] (fun x wr => ∃ (i : Nat) (qs : List Pr), x = .int .i64 i ∧ i ≤ n + 1 ∧ Hid (qs.Perm ps) ∧ Hid (RowAt wr w2.heap.size a5 c5 qs) ∧ Hid (Below w2.heap.size w2 wr)) (fun x _ => n + 1 - (intOf x).toNat)
  case atStart => exact ⟨0, _, rfl, Nat.zero_le _, hpm0, hrow0, hbc⟩
  case round =>
    obtain ⟨i, qs, rfl, hin, hpm, hro, hbr⟩ := hrel
    have hql : qs.length = n := by rw [hpm.out.length_eq, ← HN.out]
    by_cases hlt : i + 1 < n
    · obtain ⟨p, hp⟩ : ∃ p, qs[i]? = some p := ⟨_, List.getElem?_eq_getElem (by omega)⟩
      obtain ⟨q, hq⟩ : ∃ q, qs[i + 1]? = some q := ⟨_, List.getElem?_eq_getElem (by omega)⟩
      rcases hro.out with ⟨_, rfl, _⟩ | ⟨g, rfl, hg, hfl⟩
      · cases hp
      obtain ⟨W1, hW1, hb1, hx1, z1, z2⟩ := new_two wr (strV p.1) (strV p.2) 26
      have hgl := hfl.lt
      have hf1 : FlRow W1 g qs := hfl.keep (hb1.block g hgl)
      obtain ⟨p0, p1⟩ := hfl.cell hp
      obtain ⟨q0, q1⟩ := hf1.cell hq
      obtain ⟨r0, r1⟩ := hf1.cell hp
      have fz := hf1.frozen
      have f0 := cell_of_heap hx1 0
      have f1 := cell_of_heap hx1 1
      have hs := hf1.swap hp hq
      have HPM := Lib.hid ((swpF_perm hp hq).trans hpm.out)
      have hb2 : Below w2.heap.size w2 W1 := hbr.out.trans (hb1.mono hbr.out.size)
      have hne1 : ¬ wr.heap.size = g := by omega
      have hne2 : ¬ g = wr.heap.size := by omega
      obtain ⟨P1, hP1⟩ : ∃ x : ByteArray, strV p.1 = .string x := ⟨_, rfl⟩
      obtain ⟨P2, hP2⟩ : ∃ x : ByteArray, strV p.2 = .string x := ⟨_, rfl⟩
      obtain ⟨Q1, hQ1⟩ : ∃ x : ByteArray, strV q.1 = .string x := ⟨_, rfl⟩
      obtain ⟨Q2, hQ2⟩ : ∃ x : ByteArray, strV q.2 = .string x := ⟨_, rfl⟩
      rw [hP1, hP2, hQ1, hQ2] at hs
      rw [hP1] at p0 f0 r0; rw [hP2] at p1 f1 r1; rw [hQ1] at q0; rw [hQ2] at q1
      rw [hP1, hP2] at hW1
      have HFL := Lib.hid hs
      have HCH := Lib.hid ((((hb2.setCell (p := ⟨g, i * 2, none⟩) hg (.string Q1)).setCell (p := ⟨g, i * 2 + 1, none⟩) hg (.string Q2)).setCell (p := ⟨g, (i + 1) * 2, none⟩) hg (.string P1)).setCell (p := ⟨g, (i + 1) * 2 + 1, none⟩) hg (.string P2))
      have hin2 : i < n := by omega
      have HG5 := Lib.hid hg
      clear hs hp hq hP1 hP2 hQ1 hQ2 hx1 hb1 hb2 hf1 hfl hgl z1 z2 hg hql hpm hro hbr
      go_wp2_with fail
      go_roundw
      case rel => exact ⟨i + 2, _, by go_num, by omega, HPM, .inr ⟨g, rfl, HG5.out, HFL.out⟩, HCH⟩
      case measure => simp [intOf]; omega
    · have hbw2 : ∀ W, Below wr.heap.size wr W → Below w.heap.size w W := fun W h => H2.out.trans ((hbr.out.trans (h.mono hbr.out.size)).mono H2.out.size)
      have hM1 := make_any wr a c ps (HR.out.below (hbw2 wr (Below.refl _ _))) HS.out (by rw [← HN.out]; omega) (fun p hp => by have := (HSM2.out.each p hp).1; omega)
      have hM2 := fun W (h : Below wr.heap.size wr W) => make_any W a5 c5 qs ((hro.out.below h).rd) hro.out.sl (by omega) (fun p hp => by have := (HSM2.out.each p (hpm.out.mem_iff.1 hp)).1; omega)
      have hor := makeT_perm_or hpm.out
      cases h1 : makeT ps with
      | mk x r =>
      cases h2 : makeT qs with
      | mk y u =>
      have hgr : goodT r = true := by have := makeT_good2 ps; rw [h1] at this; exact this
      rw [h1, h2] at hor
      rw [h1, ← HN.out] at hM1
      rw [h2, hql] at hM2
      dsimp only at hor
      unfold MakeTo at hM1 hM2
      dsimp only at hM1 hM2
      obtain ⟨nr, hnr⟩ : ∃ nr, nr = r.length := ⟨_, rfl⟩
      obtain ⟨nu, hnu⟩ : ∃ nu, nu = u.length := ⟨_, rfl⟩
      rw [← hnr] at hM1
      rw [← hnu] at hM2
      have HM1 := Lib.hid hM1; have HM2 := Lib.hid hM2; have HNR := Lib.hid hnr; have HNU := Lib.hid hnu; have HOR := Lib.hid hor; have HGR := Lib.hid hgr; have HBW := Lib.hid hbw2
      clear hM1 hM2 hnr hnu hor hgr hbw2 h1 h2 hql hpm hro hpm0 hrow0
      go_wp2_with fail
      refine HM1.out.mono ?_
      rintro e w3 ⟨a6, c6, rfl, hrow6, hb3⟩
      obtain ⟨w4, hw4, hb4, hx4, z1, z2⟩ := new_cell w3 (.slice a6 nr c6) 28
      have hb34 := hb3.trans (hb4.mono hb3.size)
      have HB4 := Lib.hid hb34; have HX4 := Lib.hid hx4; have HR6 := Lib.hid (hrow6.below hb4)
      clear hrow6 hb3 hb4 hx4 z1 z2 hb34
      go_wp2_with fail
      refine (HM2.out w4 HB4.out).mono ?_
      rintro e w5 ⟨a7, c7, rfl, hrow7, hb5⟩
      obtain ⟨w6, hw6, hb6, hx6, z1, z2⟩ := new_cell w5 (.slice a7 nu c7) 28
      have hb56 := hb5.trans (hb6.mono hb5.size)
      have q4 := cell_of_heap ((hb56.block _ (lt_of_heap HX4.out)).trans HX4.out) 0
      have HX6 := Lib.hid hx6
      have HB6 := Lib.hid (HB4.out.trans (hb56.mono HB4.out.size))
      have HR6' := Lib.hid (HR6.out.below hb56); have HR7 := Lib.hid (hrow7.below hb6)
      clear hrow7 hb5 hb6 hx6 z1 z2 hb56
      by_cases hbad : x = 10 ∨ x = 3
      · have hy : y = 10 ∨ y = 3 := by
          rcases HOR.out with e | e
          · rw [show y = x from (Prod.mk.inj e).1]; exact hbad
          · exact e.2
        rcases hbad with rfl | rfl <;> rcases hy with rfl | rfl
        all_goals
          go_wp2_with fail
          go_ret
          exact ⟨rfl, HBW.out _ HB6.out⟩
      · have hxy : y = x ∧ u = r := by
          rcases HOR.out with e | e
          · exact Prod.mk.inj e
          · exact absurd e.1 hbad
        obtain ⟨rfl, rfl⟩ := hxy
        have hnn2 : nu = nr := HNU.out.trans HNR.out.symm
        subst hnn2
        have hx10 : (y == 10) = false := beq_eq_false_iff_ne.2 (fun e => hbad (.inl e))
        have hx3 : (y == 3) = false := beq_eq_false_iff_ne.2 (fun e => hbad (.inr e))
        obtain ⟨hgl, hge⟩ := good_len HGR.out
        have hE1 := fun W (h : Below w6.heap.size w6 W) => tenc_any W a6 c6 u ((HR6'.out.below h).rd) HR6'.out.sl (by omega) (fun p hp => by have := hge p hp; omega) (HT.out.below ((HBW.out _ HB6.out).trans (h.mono (HBW.out _ HB6.out).size)))
        have hE2 := fun W (h : Below w6.heap.size w6 W) => tenc_any W a7 c7 u ((HR7.out.below h).rd) HR7.out.sl (by omega) (fun p hp => by have := hge p hp; omega) (HT.out.below ((HBW.out _ HB6.out).trans (h.mono (HBW.out _ HB6.out).size)))
        obtain ⟨S, hS⟩ : ∃ S : ByteArray, strV (bytesT u).1 = .string S := ⟨_, rfl⟩
        obtain ⟨z, hz⟩ : ∃ z, (bytesT u).2 = z := ⟨_, rfl⟩
        rw [← HNR.out, hS, hz] at hE1 hE2
        have hSS : (S.toList == S.toList) = true := by simp
        have hyy : (y == y) = true := by simp
        have HE1 := Lib.hid hE1; have HE2 := Lib.hid hE2
        have q6 := cell_of_heap HX6.out 0
        clear hE1 hE2 hS hz hgl hge hbad
        go_wp2_with fail
        refine (HE1.out w6 (Below.refl _ _)).mono ?_
        rintro e w7 ⟨rfl, h7⟩
        have q7 := cell_of_heap ((h7.block _ (lt_of_heap HX6.out)).trans HX6.out) 0
        have H7 := Lib.hid h7
        clear q4 q6 h7
        go_wp2_with fail
        refine (HE2.out w7 H7.out).mono ?_
        rintro e w8 ⟨rfl, h8⟩
        have HB8 := Lib.hid (HBW.out _ (HB6.out.trans ((H7.out.trans (h8.mono H7.out.size)).mono HB6.out.size)))
        clear h8 q7
        go_wp2_with fail
        go_ret
        exact ⟨rfl, HB8.out⟩
end Go.Proofs.YtjcimajkjnjdpaaDoor
