/- DERIVED. The search itself, walked: by induction on the depth that is looked at. (Printed by a program.) -/
import Derived.Test.YtaagkndhgicifaaGreatSv09
namespace Go.Proofs.YtaagkndhgicifaaGreat
set_option maxHeartbeats 32000000
open Go.RowKit Go.Shelf
set_option linter.unusedVariables false
set_option linter.unusedSimpArgs false
set_option maxRecDepth 100000
theorem from_any (w0 : World) (B : Nat) (F : List Nat) (st : St) (h0 : StkAt w0 B F st) (vp : Value) (Zp : Zone) (pool : List Pk) (hp0 : PkgsAt Zp w0 vp pool) (Hb left : Nat) (hleft : left ≤ 2000) :
  ∀ (N : Nat) (w : World) (ws : List Dp) (ch : List Pk) (made : Nat) (vW vC : Value) (xs : List Value) (i : Nat) (r : Res × Nat), Below w0.heap.size w0 w → SrAt w Hb B w0.heap.size vp left ws ch made vW vC xs → made ≤ left → i ≤ ws.length →
   ws.length + 8 * (left - made) ≤ 20000 → ch.length + (left - made) ≤ 20000 → (∀ p ∈ ch, p ∈ st.pkgs) → meetF (st.fitsP pool) st.runs N (left - made) (ws.drop i) ch = some r →
   Calls Tryz.prog 87 #[.pointer (some ⟨Hb, 0, none⟩), .int .i64 i] w (FromR w Hb B w0.heap.size vp left ws ch vW vC r) := by
 intro N
 induction N with
 | zero => intro w ws ch made vW vC xs i r _ _ _ _ _ _ _ h; cases h
 | succ N ih =>
  intro w ws ch made vW vC xs i r hbw hS hml hil hwl hcl hpk hr
  have IH := hdL ih
  clear ih
  obtain ⟨aW, cW, rfl, hcW⟩ := ownsC_form hS.wown
  have k2 := cOh hS.cells 2
  unfold srC at k2
  obtain ⟨n, hn⟩ : ∃ n, n = ws.length := ⟨_, rfl⟩
  have HS := hdL hS; have HBW := hdL hbw; have HPK := hdL hpk; have HR := hdL hr
  rw [← hn] at k2 hil hwl
  have hnl : n ≤ 20000 := by omega
  by_cases hin : i = n
  ·have hrr : r = (.ok ch, left - made) := by
    rw [hin, hn, List.drop_length] at hr
    exact (sIj hr).symm
   have HRR := hdL hrr
   clear hS hbw hpk hr hrr
   subst hin
   go_enter Tryz.func87, Tryz.ntmps87
   go_wp2_with fail
   go_ret
   rw [HRR.out]
   refine ⟨Ch.refl _ _, rfl, .slice aW ws.length cW, vC, ?_, HS.out.cown, .inl rfl⟩
   have h1 := HS.out.cells
   rw [show ((left : Int) - ((left - made : Nat) : Int)) = (made : Int) from by omega]
   exact h1
  ·obtain ⟨d, hd⟩ : ∃ d, ws[i]? = some d := ⟨_, gEg (by omega)⟩
   have hdrop : ws.drop i = d :: ws.drop (i + 1) := by
    rw [List.drop_eq_getElem_cons (gEs.1 hd).1, (gEs.1 hd).2]
   obtain ⟨v0, v1, x0, x1, hdep⟩ := hS.wcont i d hd
   obtain ⟨e0, hdl, hgap⟩ := hdep
   have hgap' := hgap
   obtain ⟨a1, c1, e1, -, -⟩ := hgap'
   subst e0 e1
   obtain ⟨m, hm⟩ : ∃ m, m = d.2.length := ⟨_, rfl⟩
   have hgw : ∃ g, aW = some ⟨g, 0, none⟩ := by
    rcases hS.wown.2 with ⟨e, e2⟩ | ⟨g, cap, cur, e, _⟩
    ·omega
    ·exact ⟨g, (Value.slice.inj e).1⟩
   obtain ⟨gW, rfl⟩ := hgw
   have q0 : w.cell? ⟨gW, i * 2, none⟩ = some (strV d.1) := ownsC_cells hS.wown rfl _ _ x0
   have q1 : w.cell? ⟨gW, i * 2 + 1, none⟩ = some (.slice a1 d.2.length c1) := ownsC_cells hS.wown rfl _ _ x1
   obtain ⟨S, -, hSd, -, -⟩ := strV_is d.1
   obtain ⟨w1, hw1, hb1, hx1, y1, y2⟩ := aBk w #[strV d.1, .slice a1 d.2.length c1] 59
   obtain ⟨Bd, hBd⟩ : ∃ b, w.heap.size = b := ⟨_, rfl⟩
   rw [hBd] at hx1
   have hS1 := hS.below hb1
   have hhas := has_any w1 Hb B vp _ vC left made _ ch hS1.cells (pkgs_ownsC hS1.cown rfl (by omega)) d.1
   rw [hSd] at q0 hx1 hw1 hhas
   obtain ⟨d0, d1⟩ := cells2 hx1
   rw [← hm] at q1 hx1 hw1 d1
   have hmm : m ≤ 8796093022208 := by rw [hm]; exact (by obtain ⟨_, _, e, hb, _⟩ := hgap; exact hb.max)
   have hR2 := hr
   rw [hdrop] at hR2
   unfold meetF at hR2
   have HB1 := hdL hb1; have HX1 := hdL hx1; have HGAP := hdL (hgap.below hb1); have HSD := hdL hSd; have HM := hdL hm; have HN := hdL hn
   have HST1 := hdL (h0.below (hbw.trans (hb1.mono hbw.size)))
   have HSZ := hdL (show w.heap.size = Bd ∧ w1.heap.size = Bd + 1 from by omega)
   have HWF := hdL (hbw.size)
   have hin' : ((i : Int) == (n : Int)) = false := by simp; omega
   have hi1 : i < n := by omega
   have HRL := hdL (fun p => runs_len h0 p)
   cases hf : ch.find? (fun p => decide (p.1 = d.1)) with
   | some p =>
    rw [hf] at hhas hR2
    dsimp only at hR2
    simp only [pk4, pkL, Option.isSome_some] at hhas
    have hpp : p ∈ st.pkgs := hpk p (List.mem_of_find?_eq_some hf)
    obtain ⟨T, -, hT, -, -⟩ := strV_is p.1
    have hwill := fun (V : World) (hV : Below w1.heap.size w1 V) => swill_any V Hb B F st vp _ vC left made _ d _ p ((hV.block _ (loh hS1.cells)).trans hS1.cells) (HST1.out.below hV) (HGAP.out.below hV)
    rw [hSd, inP_will hpp, ← hm] at hwill
    obtain ⟨pn, p1, p2, p3⟩ := p
    dsimp only at hhas hT hwill
    rw [hT] at hhas hwill
    cases hwb : willB d (pn, p1, p2, p3) with
    | false =>
     have hrr : r = (.clash, left - made) := by
      rw [hwb, if_neg (by simp)] at hR2
      exact (sIj hR2).symm
     rw [hwb] at hwill
     have HWILL := hdL hwill; have HHAS := hdL hhas; have HRR := hdL hrr
     clear hS hbw hpk hr hdrop hd x0 x1 hdl hgap hS1 hhas hb1 hx1 y1 y2 hSd hm hn hR2 hf hpp hT hwill hwb hrr
     go_enter Tryz.func87, Tryz.ntmps87
     go_wp2_with fail
     refine HHAS.out.mono ?_
     rintro e w2 ⟨rfl, h2⟩
     obtain ⟨w3, hw3, hb3, hx3, y1, y2⟩ := aBk w2 #[.string T, .int .i64 p1, .int .i64 p2, .int .i64 p3] 41
     have hb13 := h2.trans (hb3.mono h2.size)
     obtain ⟨Bp, hBp⟩ : ∃ b, w2.heap.size = b := ⟨_, rfl⟩
     have hW := HWILL.out w3 hb13
     have hd3 := (hb13.block _ (loh HX1.out)).trans HX1.out
     obtain ⟨r0, r1, r2, r3⟩ := cells4 hx3
     obtain ⟨r4, r5⟩ := cells2 hd3
     have HW := hdL hW; have HB13 := hdL hb13
     clear hW h2 hb3 hx3 hd3 y1 y2 hb13 k2 q0 q1 d0 d1 hBp
     go_wp2_with fail
     refine HW.out.mono ?_
     rintro e w4 ⟨rfl, h4⟩
     have HB4 := hdL (HB1.out.trans ((HB13.out.trans (h4.mono HB13.out.size)).mono HB1.out.size))
     clear h4 r0 r1 r2 r3 r4 r5
     go_wp2_with fail
     go_ret
     rw [HRR.out]
     refine ⟨Ch.of_below HB4.out _, rfl, _, vC, xs, ?_, .inl rfl, .inl rfl⟩
     have h1 := HS.out.below HB4.out
     rw [show ((left : Int) - ((left - made : Nat) : Int)) = (made : Int) from by omega]
     exact h1
    | true =>
     have hrr : meetF (st.fitsP pool) st.runs N (left - made) (ws.drop (i + 1)) ch = some r := by
      rw [hwb, if_pos rfl] at hR2
      exact hR2
     rw [hwb] at hwill
     have hfrom := fun (V : World) (hV : Below w.heap.size w V) => IH.out V ws ch made _ vC xs (i + 1) r (hbw.trans (hV.mono hbw.size)) (hS.below hV) hml (by omega) (by omega) hcl hpk hrr
     rw [← hn] at hfrom
     have HWILL := hdL hwill; have HHAS := hdL hhas; have HFROM := hdL hfrom
     clear hS hbw hpk hr hdrop hd x0 x1 hdl hgap hS1 hhas hb1 hx1 y1 y2 hSd hm hR2 hf hpp hT hwill hwb hrr hfrom
     go_enter Tryz.func87, Tryz.ntmps87
     go_wp2_with fail
     refine HHAS.out.mono ?_
     rintro e w2 ⟨rfl, h2⟩
     obtain ⟨w3, hw3, hb3, hx3, y1, y2⟩ := aBk w2 #[.string T, .int .i64 p1, .int .i64 p2, .int .i64 p3] 41
     have hb13 := h2.trans (hb3.mono h2.size)
     have hW := HWILL.out w3 hb13
     have hd3 := (hb13.block _ (loh HX1.out)).trans HX1.out
     obtain ⟨r0, r1, r2, r3⟩ := cells4 hx3
     obtain ⟨r4, r5⟩ := cells2 hd3
     have HW := hdL hW; have HB13 := hdL hb13
     clear hW h2 hb3 hx3 hd3 y1 y2 hb13 k2 q0 q1 d0 d1
     go_wp2_with fail
     refine HW.out.mono ?_
     rintro e w4 ⟨rfl, h4⟩
     have hB4 := HB1.out.trans ((HB13.out.trans (h4.mono HB13.out.size)).mono HB1.out.size)
     have hF := HFROM.out w4 hB4
     rw [show (((i + 1 : Nat)) : Int) = (i : Int) + 1 from by omega] at hF
     have HF := hdL hF; have HB4 := hdL hB4
     clear h4 r0 r1 r2 r3 r4 r5 hF hB4
     go_wp2_with fail
     refine HF.out.mono ?_
     intro e w5 hfr
     have hbk := hfr.back HB4.out
     obtain ⟨res, b⟩ := r
     cases res with
     | ok c =>
      obtain ⟨-, rfl, -⟩ := hfr
      have HBK := hdL hbk
      clear hbk
      go_wp2_with fail
      go_ret
      rw [HN.out] at HBK
      exact HBK.out
     | clash =>
      obtain ⟨-, rfl, -⟩ := hfr
      have HBK := hdL hbk
      clear hbk
      go_wp2_with fail
      go_ret
      rw [HN.out] at HBK
      exact HBK.out
     | budget =>
      obtain ⟨-, rfl, -⟩ := hfr
      have HBK := hdL hbk
      clear hbk
      go_wp2_with fail
      rw [HN.out] at HBK
      exact ⟨rfl, HBK.out⟩
   | none =>
    rw [hf] at hhas hR2
    dsimp only at hR2
    simp only [pk4, Option.isSome_none] at hhas
    have hfits := fun (V : World) (hV : Below w1.heap.size w1 V) => sfits_any V Hb B F st vp _ vC left made _ Zp pool d _ ((hV.block _ (loh hS1.cells)).trans hS1.cells) (HST1.out.below hV) ((hp0.below (hbw.trans (hb1.mono hbw.size))).below hV) (HGAP.out.below hV)
    obtain ⟨L, hL⟩ : ∃ L, L = st.fitsP pool d := ⟨_, rfl⟩
    obtain ⟨rest, hrest⟩ : ∃ rest, rest = ws.drop (i + 1) := ⟨_, rfl⟩
    rw [← hL] at hR2
    rw [← hrest] at hR2
    simp only [← hL] at hfits
    rw [hSd, ← hm] at hfits
    have hLL : L.length ≤ 40 := by
     rw [hL]
     have h1 := fitsP_len st pool d
     obtain ⟨_, _, _, _, h2⟩ := h0
     have h3 := h2.few
     omega
    have hLp : ∀ p ∈ L, p ∈ st.pkgs := fun p hp => by rw [hL] at hp; exact (St.mem_fitsP.1 hp).2.1
    obtain ⟨nL, hnL⟩ : ∃ nL, nL = L.length := ⟨_, rfl⟩
    simp only [← hnL] at hfits
    rw [← hnL] at hLL
    have HFITS := hdL hfits; have HHAS := hdL hhas; have HTRY := hdL hR2; have HLP := hdL hLp; have HNL := hdL hnL; have HREST := hdL hrest; have HLW := hdL hwl; have HLC := hdL hcl
    clear hS hbw hpk hr hdrop hd x0 x1 hdl hgap hS1 hhas hb1 hx1 y1 y2 hSd hm hR2 hf hfits hL hLp hnL hrest hwl hcl hn
    go_enter Tryz.func87, Tryz.ntmps87
    go_wp2_with fail
    refine HHAS.out.mono ?_
    rintro e w2 ⟨rfl, h2⟩
    obtain ⟨w3, hw3, hb3, hx3, y1, y2⟩ := aBk w2 #[.string ⟨#[]⟩, .int .i64 0, .int .i64 0, .int .i64 0] 41
    have hb13 := h2.trans (hb3.mono h2.size)
    have hW := HFITS.out w3 hb13
    have hd3 := (hb13.block _ (loh HX1.out)).trans HX1.out
    obtain ⟨r4, r5⟩ := cells2 hd3
    have HW := hdL hW; have HB3 := hdL (HB1.out.trans (hb13.mono HB1.out.size))
    clear hW h2 hb3 hx3 hd3 y1 y2 hb13 k2 q0 q1 d0 d1
    subst hw3
    go_wp2_with fail
    refine HW.out.mono ?_
    rintro e w4 ⟨v', rfl, hrow, h4⟩
    have hrf := hrow
    obtain ⟨aL, cL, rfl⟩ := owns_form hrf
    have hB4 := HB3.out.trans (h4.mono HB3.out.size)
    have hcut : ∀ k p, L[k]? = some p → ∃ g, aL = some ⟨g, 0, none⟩ ∧ w.heap.size ≤ g ∧ g < w4.heap.size ∧ ∀ j u, (pkL p)[j]? = some u → w4.cell? ⟨g, k * 4 + j, none⟩ = some u := fun k p hkp => by
     have hlt := (gEs.1 hkp).1
     rcases hrow.2 with ⟨_, e2⟩ | ⟨g, cap, cur, e1, hge, hgb, _⟩
     ·have := HNL.out; omega
     ·refine ⟨g, (Value.slice.inj e1).1, Nat.le_trans HB3.out.size hge, loh hgb, fun j u hj => ?_⟩
      have hj4 : j < 4 := by have := (gEs.1 hj).1; rwa [pkL_len] at this
      exact ownsC_cells (ownsC_of hrow) (by rw [e1]; rfl) _ u (by rw [flat_at pkL_len L k p hkp j hj4]; exact hj)
    have HCUT := hdL hcut; have HB4 := hdL hB4
    have HZ4 := hdL (show w.heap.size ≤ w4.heap.size from hB4.size)
    have HS4 := hdL (HS.out.below hB4)
    clear hrow hrf h4 hcut hB4 r4 r5
    go_wp2_with fail
    go_loopw [50] (fun x wr => ∃ (k made' : Nat) (vW' vC' : Value) (xs' : List Value), x = .int .i64 k ∧ k ≤ nL ∧ made ≤ made' ∧ made' ≤ left ∧ Hid (SrAt wr Hb B w0.heap.size vp left ws ch made' vW' vC' xs') ∧ Hid (newOr vW' (.slice (some ⟨gW, 0, none⟩) n cW) w4) ∧ Hid (newOr vC' vC w4) ∧ Hid (Ch (srF Hb (.slice (some ⟨gW, 0, none⟩) n cW) vC) w4 wr) ∧ Hid (tryF (meetF (st.fitsP pool) st.runs N) st.runs rest ch (left - made') (L.drop k) = some r)) (fun x _ => nL - (intOf x).toNat)
    case atStart =>
     refine ⟨0, made, _, vC, xs, rfl, Nat.zero_le _, Nat.le_refl _, hml, HS4.out, .inl (own_len _ _ _ _ _), .inl rfl, Ch.refl _ _, HTRY.out⟩
    case round =>
     obtain ⟨k, made', vW', vC', xs', rfl, hk, hmd, hml', hsr, hnw, hnc, hch, htr⟩ := hrel
     by_cases hlt : k < nL
     ·obtain ⟨p, hp⟩ : ∃ p, L[k]? = some p := ⟨_, gEg (by rw [← HNL.out]; exact hlt)⟩
      have hdk : L.drop k = p :: L.drop (k + 1) := by
       rw [List.drop_eq_getElem_cons (gEs.1 hp).1, (gEs.1 hp).2]
      obtain ⟨gL, rfl, hg1, hg2, hgc⟩ := HCUT.out k p hp
      have hgl : wr.heap[gL]? = w4.heap[gL]? := hch.out.block gL hg2 (fun hm => by have := HS.out.lt gL (by rw [← HN.out]; exact hm); omega)
      have c0 : wr.cell? ⟨gL, k * 4, none⟩ = some (strV p.1) := (World.cell?_of_block (a := ⟨gL, k * 4, none⟩) hgl).trans (hgc 0 _ rfl)
      have c1 : wr.cell? ⟨gL, k * 4 + 1, none⟩ = some (.int .i64 p.2.1) := (World.cell?_of_block (a := ⟨gL, k * 4 + 1, none⟩) hgl).trans (hgc 1 _ rfl)
      have c2 : wr.cell? ⟨gL, k * 4 + 2, none⟩ = some (.int .i64 p.2.2.1) := (World.cell?_of_block (a := ⟨gL, k * 4 + 2, none⟩) hgl).trans (hgc 2 _ rfl)
      have c3 : wr.cell? ⟨gL, k * 4 + 3, none⟩ = some (.int .i64 p.2.2.2) := (World.cell?_of_block (a := ⟨gL, k * 4 + 3, none⟩) hgl).trans (hgc 3 _ rfl)
      have hpp : p ∈ st.pkgs := HLP.out p (List.mem_of_getElem? hp)
      have htr' := htr.out
      rw [hdk] at htr'
      have hrl := HRL.out p
      have hrec0 := fun (V : World) (hV : Below w0.heap.size w0 V) => stkrecipe_any V B F st (h0.below hV) p
      obtain ⟨T, -, hT, -, -⟩ := strV_is p.1
      have HEQ := hdL (show pkL p = [.string T, .int .i64 p.2.1, .int .i64 p.2.2.1, .int .i64 p.2.2.2] by unfold pkL; rw [hT])
      obtain ⟨m3, hm3⟩ : ∃ m, m = (st.runs p).length := ⟨_, rfl⟩
      rw [← hm3] at hrl
      have HM3 := hdL hm3; have HPP := hdL hpp
      rw [hT] at c0 hrec0
      obtain ⟨w5, hw5, hb5, hx5, y1, y2⟩ := aBk wr #[.string T, .int .i64 p.2.1, .int .i64 p.2.2.1, .int .i64 p.2.2.2] 41
      have hs5 := hsr.out.below hb5
      obtain ⟨Bp, hBp⟩ : ∃ b, wr.heap.size = b := ⟨_, rfl⟩
      rw [hBp] at hx5
      have HREC0 := hdL hrec0; have HS5 := hdL hs5; have HX5 := hdL hx5; have HB5 := hdL hb5
      obtain ⟨pn, p1, p2, p3⟩ := p
      dsimp only at c0 c1 c2 c3 hw5
      by_cases hdm : made' < left
      ·have HDEC := hdL (decide_yes w5 Hb B vp vW' vC' left made' hs5.cells (by omega) (by omega) (by omega))
       obtain ⟨b, hb⟩ : ∃ b, left - made' = b + 1 := ⟨left - made' - 1, by omega⟩
       rw [hb] at htr'
       unfold tryF at htr'
       have HTR := hdL htr'; have HBB := hdL hb
       have HSR := hdL hsr.out; have HCHW := hdL hch.out
       clear hp hdk hgc hgl hT hm3 hpp htr' hrec0 hs5 hx5 hb5 y1 y2 hg1 hg2 hb htr hsr hch
       go_wp2_with fail
       refine HDEC.out.mono ?_
       rintro e w6 ⟨rfl, hc6, hch6⟩
       have hs6 := HS5.out.count hc6 hch6
       have HLT6 := hdL (fun k (hk : k ∈ srF Hb vW' vC') => hs6.lt k hk)
       have hx6 := (hch6.block Bp (loh HX5.out) (by rw [mSg]; intro e; subst e; exact heap_ne HX5.out HS5.out.cells (by decide) rfl)).trans HX5.out
       have HS6 := hdL hs6; have HX6 := hdL hx6; have HCH6 := hdL hch6
       clear hc6 hch6 hs6 hx6 c0 c1 c2 c3
       go_upto_region 11 with fail
       have kB := cOh HS6.out.cells 0
       unfold srC at kB
       obtain ⟨t0, t1, t2, t3⟩ := cells4 HX6.out
       have HW6 := hdL (show Below w0.heap.size w0 w6 from (boC (((Ch.of_below HB4.out _).trans HCHW.out (fun x hx => .inl hx)).trans (Ch.of_below HB5.out (srF Hb (.slice (some ⟨gW, 0, none⟩) n cW) vC)) (fun x hx => .inl hx) |> fun h => h.trans HCH6.out (fun x hx => .inl (mem_srF.2 (.inl (mSg.1 hx))))) (fun k hk => HS.out.base_le k (by rw [← HN.out]; exact hk)) HWF.out |> fun h => HBW.out.trans h))
       have HW06 := hdL (show Below w0.heap.size w0 w6.drew from HW6.out.drew)
       go_cut [10] (fun x wx => ∃ (Bx : Nat) (rs : ByteArray) (rx ry rz : Int) (rt : ByteArray) (ra1 : Option Addr) (rn1 rc1 : Nat) (ra2 : Option Addr) (rn2 rc2 : Nat) (ra3 : Option Addr) (rc3 : Nat), x = .pointer (some ⟨Bx, 0, none⟩) ∧ Hid (wx.heap[Bx]? = some (.cells #[.string rs, .int .i64 rx, .int .i64 ry, .int .i64 rz, .string rt, .slice ra1 rn1 rc1, .slice ra2 rn2 rc2, .slice ra3 m3 rc3] 62 (0, 0))) ∧ Hid (DepsAt (fun b => w6.heap.size ≤ b ∧ b < wx.heap.size) wx (.slice ra3 m3 rc3) (st.runs (pn, p1, p2, p3))) ∧ Hid (Below w6.heap.size w6 wx))
       case first =>
        refine UpV.start [(5, fun W : World => W.cell? ⟨Hb, 0, none⟩ = some (.pointer (some ⟨B, 0, none⟩)) ∧ W.cell? ⟨Bp, 0, none⟩ = some (.string T) ∧ W.cell? ⟨Bp, 1, none⟩ = some (.int .i64 p1) ∧ W.cell? ⟨Bp, 2, none⟩ = some (.int .i64 p2) ∧ W.cell? ⟨Bp, 3, none⟩ = some (.int .i64 p3))] (by kernel_rfl) ?_
        have hA0 : ∀ q ∈ ([(5, fun W : World => W.cell? ⟨Hb, 0, none⟩ = some (.pointer (some ⟨B, 0, none⟩)) ∧ W.cell? ⟨Bp, 0, none⟩ = some (.string T) ∧ W.cell? ⟨Bp, 1, none⟩ = some (.int .i64 p1) ∧ W.cell? ⟨Bp, 2, none⟩ = some (.int .i64 p2) ∧ W.cell? ⟨Bp, 3, none⟩ = some (.int .i64 p3))] : List (Nat × (World → Prop))), q.2 w6.drew := by
         intro q hq
         obtain rfl := mSg.1 hq
         exact ⟨kB, t0, t1, t2, t3⟩
        refine UpV.tp 0 (v := .pointer (some ⟨Hb, 0, none⟩)) rfl (Or.inl ⟨by rfl, ?_⟩) (owe_all hA0) ?_
        ·intro w hSw; rfl
        try simp only [Act.put, sqZ]
        refine UpV.tp 1 (v := .pointer (some ⟨Hb, 0, none⟩)) rfl (Or.inl ⟨by rfl, ?_⟩) (owe_all hA0) ?_
        ·intro w hSw; rfl
        try simp only [Act.put, sqZ]
        refine UpV.tp 2 (v := .pointer (some ⟨Hb, 0, none⟩)) rfl (Or.inl ⟨by rfl, ?_⟩) (owe_all hA0) ?_
        ·intro w hSw; rfl
        try simp only [Act.put, sqZ]
        refine UpV.tk 3 5 (v := .pointer (some ⟨B, 0, none⟩)) rfl (mCs ..) (Or.inl ⟨by rfl, ?_⟩) (owe_all hA0) ?_
        ·intro w hSw; obtain ⟨s0, s1, s2, s3, s4⟩ := hSw; go_simp
        try simp only [Act.put, sqZ]
        refine UpV.tk 4 5 (v := .agg #[.string T, .int .i64 p1, .int .i64 p2, .int .i64 p3]) rfl (mCs ..) (Or.inl ⟨by rfl, ?_⟩) (owe_all hA0) ?_
        ·intro w hSw; obtain ⟨s0, s1, s2, s3, s4⟩ := hSw; go_simp
        try simp only [Act.put, sqZ]
        refine UpV.two 5 9 (by kernel_rfl) rfl rfl ?_ ?_
        ·intro K hK
         try simp only [sqG]
         try go_simp
         go_at_call 83
         refine (HREC0.out _ HW06.out).mono ?_
         intro e w7 hrc
         obtain ⟨rs, rx, ry, rz, rt, ra1, rn1, rc1, ra2, rn2, rc2, ra3, rc3, rb, rfl, hdp, hb7⟩ := recipe_runs hrc
         rw [← HM3.out] at hdp ⊢
         have HDP := hdL hdp; have HB7 := hdL (((Below.refl _ w6).drew).trans hb7)
         clear hrc hdp hb7
         try go_simp
         refine hK.out _ _ (owe1 (fun h => by cases h)) ?_
         clear hK K
         try simp only [Act.put, sqZ]
         refine UpV.tp 6 (v := .tuple #[.agg #[.string rs, .int .i64 rx, .int .i64 ry, .int .i64 rz, .string rt, .slice ra1 rn1 rc1, .slice ra2 rn2 rc2, .slice ra3 m3 rc3], .bool rb]) rfl (Or.inl ⟨by rfl, ?_⟩) (owe1 (fun h => by cases h)) ?_
         ·intro w hSw; rfl
         try simp only [Act.put, sqZ]
         refine UpV.tp 7 (v := .agg #[.string rs, .int .i64 rx, .int .i64 ry, .int .i64 rz, .string rt, .slice ra1 rn1 rc1, .slice ra2 rn2 rc2, .slice ra3 m3 rc3]) rfl (Or.inl ⟨by rfl, ?_⟩) (owe1 (fun h => by cases h)) ?_
         ·intro w hSw; rfl
         try simp only [Act.put, sqZ]
         refine UpV.tp 8 (v := .bool rb) rfl (Or.inl ⟨by rfl, ?_⟩) (owe1 (fun h => by cases h)) ?_
         ·intro w hSw; rfl
         try simp only [Act.put, sqZ]
         obtain ⟨w8, hw8, hb8, hx8, y1, y2⟩ := aBk w7 #[.string ⟨#[]⟩, .int .i64 0, .int .i64 0, .int .i64 0, .string ⟨#[]⟩, .slice none 0 0, .slice none 0 0, .slice none 0 0] 62
         refine UpV.one 9 (by kernel_rfl) rfl ?_
         intro K hK
         try simp only [sqG]
         try go_simp
         refine hK.out _ _ (owe1 (fun h => by cases h)) ?_
         clear hK K
         try simp only [Act.put, sqZ]
         obtain ⟨z0, z1, z2, z3, z4, z5, z6, z7⟩ := cells8 hx8
         have zf := foh hx8
         refine UpV.one 10 (by kernel_rfl) rfl ?_
         intro K hK
         try simp only [sqG]
         try go_simp
         obtain ⟨W9, hW9, hW9x, hW9b, hW9o, hW9s⟩ := eight_set hx8 (.string rs) (.int .i64 rx) (.int .i64 ry) (.int .i64 rz) (.string rt) (.slice ra1 rn1 rc1) (.slice ra2 rn2 rc2) (.slice ra3 m3 rc3)
         rw [hW9]
         refine hK.out _ _ (owe1 (fun h => by cases h)) ?_
         clear hK K
         try simp only [Act.put, sqZ]
         clear z0 z1 z2 z3 z4 z5 z6 z7 zf
         refine UpV.one 11 (by kernel_rfl) rfl ?_
         intro K hK
         try simp only [sqG]
         try go_simp
         refine hK.out _ _ (owe1 (fun h => by cases h)) ?_
         clear hK K
         try simp only [Act.put, sqZ]
         refine UpV.done (by kernel_rfl) ?_
         go_wp2_with fail
         go_meet
         refine ⟨w7.heap.size, rs, rx, ry, rz, rt, ra1, rn1, rc1, ra2, rn2, rc2, ra3, rc3, rfl, hW9x, ?_, hW9b _ _ HB7.out.size (HB7.out.trans (hb8.mono HB7.out.size))⟩
         exact HDP.out.keep (Keep.of_block (fun b hb hz => ⟨hz, by omega⟩) (by omega) (fun b hb hz => (hW9o b (by omega)).trans (hb8.block b hb)))
        ·obtain ⟨w7, hw7, hb7', hx7, y1, y2⟩ := aBk w6.drew #[.string ⟨#[]⟩, .int .i64 0, .int .i64 0, .int .i64 0, .string ⟨#[]⟩, .slice none 0 0, .slice none 0 0, .slice none 0 0] 62
         have hB7 : Below w6.heap.size w6 w7 := ((Below.refl _ w6).drew).trans hb7'
         have hx7' : w7.heap[w6.heap.size]? = some (.cells #[.string ⟨#[]⟩, .int .i64 0, .int .i64 0, .int .i64 0, .string ⟨#[]⟩, .slice none 0 0, .slice none 0 0, .slice none 0 0] 62 (0, 0)) := hx7
         have c0' := bkp hB7 _ _ kB
         have c1' := bkp hB7 _ _ t0
         have c2' := bkp hB7 _ _ t1
         have c3' := bkp hB7 _ _ t2
         have c4' := bkp hB7 _ _ t3
         intro K hK
         try simp only [sqG]
         try go_simp
         refine hK.out _ _ (owe1 (fun _ => ⟨c0', c1', c2', c3', c4'⟩)) ?_
         clear hK K
         try simp only [Act.put, sqZ]
         refine UpV.one 5 (by kernel_rfl) rfl ?_
         intro K hK
         try simp only [sqG]
         try go_simp
         go_at_call 83
         refine (HREC0.out _ (HW06.out.trans (hb7'.mono HW06.out.size))).mono ?_
         intro e w8 hrc
         obtain ⟨rs, rx, ry, rz, rt, ra1, rn1, rc1, ra2, rn2, rc2, ra3, rc3, rb, rfl, hdp, hb7⟩ := recipe_runs hrc
         rw [← HM3.out] at hdp ⊢
         have HDP := hdL hdp; have HB8 := hdL hb7
         have hx8 := (hb7.block _ (loh hx7')).trans hx7'
         clear hrc hdp hb7
         try go_simp
         refine hK.out _ _ (owe1 (fun h => by cases h)) ?_
         clear hK K
         try simp only [Act.put, sqZ]
         refine UpV.tp 6 (v := .tuple #[.agg #[.string rs, .int .i64 rx, .int .i64 ry, .int .i64 rz, .string rt, .slice ra1 rn1 rc1, .slice ra2 rn2 rc2, .slice ra3 m3 rc3], .bool rb]) rfl (Or.inl ⟨by rfl, ?_⟩) (owe1 (fun h => by cases h)) ?_
         ·intro w hSw; rfl
         try simp only [Act.put, sqZ]
         refine UpV.tp 7 (v := .agg #[.string rs, .int .i64 rx, .int .i64 ry, .int .i64 rz, .string rt, .slice ra1 rn1 rc1, .slice ra2 rn2 rc2, .slice ra3 m3 rc3]) rfl (Or.inl ⟨by rfl, ?_⟩) (owe1 (fun h => by cases h)) ?_
         ·intro w hSw; rfl
         try simp only [Act.put, sqZ]
         refine UpV.tp 8 (v := .bool rb) rfl (Or.inl ⟨by rfl, ?_⟩) (owe1 (fun h => by cases h)) ?_
         ·intro w hSw; rfl
         try simp only [Act.put, sqZ]
         obtain ⟨z0, z1, z2, z3, z4, z5, z6, z7⟩ := cells8 hx8
         have zf := foh hx8
         refine UpV.one 10 (by kernel_rfl) rfl ?_
         intro K hK
         try simp only [sqG]
         try go_simp
         obtain ⟨W9, hW9, hW9x, hW9b, hW9o, hW9s⟩ := eight_set hx8 (.string rs) (.int .i64 rx) (.int .i64 ry) (.int .i64 rz) (.string rt) (.slice ra1 rn1 rc1) (.slice ra2 rn2 rc2) (.slice ra3 m3 rc3)
         rw [hW9]
         refine hK.out _ _ (owe1 (fun h => by cases h)) ?_
         clear hK K
         try simp only [Act.put, sqZ]
         clear z0 z1 z2 z3 z4 z5 z6 z7 zf
         refine UpV.one 11 (by kernel_rfl) rfl ?_
         intro K hK
         try simp only [sqG]
         try go_simp
         refine hK.out _ _ (owe1 (fun h => by cases h)) ?_
         clear hK K
         try simp only [Act.put, sqZ]
         refine UpV.done (by kernel_rfl) ?_
         go_wp2_with fail
         go_meet
         have hz78 := HB8.out.size
         have hz6 : w6.drew.heap.size = w6.heap.size := rfl
         refine ⟨w6.heap.size, rs, rx, ry, rz, rt, ra1, rn1, rc1, ra2, rn2, rc2, ra3, rc3, rfl, hW9x, ?_, hW9b _ _ (Nat.le_refl _) (hB7.trans (HB8.out.mono hB7.size))⟩
         exact HDP.out.keep (Keep.of_block (fun b hb hz => ⟨by have : w7.heap.size ≤ b := hz; omega, by omega⟩) (by omega) (fun b hb hz => hW9o b (by have : w7.heap.size ≤ b := hz; omega)))
       obtain ⟨Bx, rs, rx, ry, rz, rt, ra1, rn1, rc1, ra2, rn2, rc2, ra3, rc3, rfl, HXR, HDP, HBX⟩ := hcut
       obtain ⟨W7, hW7⟩ : ∃ W, W = wc := ⟨_, rfl⟩
       subst hW7
       have hs7 := HS6.out.below HBX.out
       obtain ⟨aW', cW', rfl, hcw⟩ := ownsC_form hs7.wown
       obtain ⟨aC', cC', rfl, hcc⟩ := ownsC_form hs7.cown
       obtain ⟨nC, hnC⟩ : ∃ nC, nC = ch.length := ⟨_, rfl⟩
       have kW := cOh hs7.cells 2
       have kC := cOh hs7.cells 3
       unfold srC at kW kC
       rw [← hnC] at kC
       rw [← HN.out] at kW
       have HS7 := hdL hs7; have HNC := hdL hnC
       clear hs7 hnC kB t0 t1 t2 t3
       go_wp2_with fail
       go_quiet (fail)
       go_upto_region 13 with fail
       obtain ⟨W8, hW8⟩ : ∃ W, W = W7.drewN nq := ⟨_, rfl⟩
       rw [← hW8]
       have hb78 : Below W7.heap.size W7 W8 := by rw [hW8]; exact below_drewN nq W7
       have hb68 := HBX.out.trans (hb78.mono HBX.out.size)
       have hs8 := HS7.out.below hb78
       have hx8 := (hb78.block _ (loh HXR.out)).trans HXR.out
       have hp8 := (hb68.block _ (loh HX6.out)).trans HX6.out
       have hd8 := HDP.out.keep (Z' := fun b => w6.heap.size ≤ b ∧ b < W8.heap.size) ⟨fun b hb hz => ⟨hz.1, by have := hb78.size; omega⟩, hb78.size, fun a u hz hc => bkp hb78 _ _ hc⟩
       obtain ⟨ys, hy1, hy2, hy3⟩ := src_deps hd8
       rw [← HM3.out] at hy1 hy3
       obtain ⟨iD, hiD, hzD0, hzD1, hzD2⟩ := info_parts infoDep
       obtain ⟨iP, hiP, hzP0, hzP1, hzP2⟩ := info_parts infoPkg
       have hnn : ws.length = n := HN.out.symm
       have hnnC : ch.length = nC := HNC.out.symm
       have howW := hs8.wown
       have howC := hs8.cown
       rw [hnn] at howW
       rw [hnnC] at howC
       have hnm : n + m3 ≤ 20000 := by have := HLW.out; have := HBB.out; omega
       have hcm : nC + 1 ≤ 20001 := by have := HLC.out; have := HBB.out; omega
       have hsH := hs8.cells
       rw [hnn, hnnC] at hsH
       have u0 := cOh hsH 2
       have u1 := cOh hsH 3
       have u2 := cOh hx8 7
       obtain ⟨t0, t1, t2, t3⟩ := cells4 hp8
       unfold srC at u0 u1
       have hbase : w0.heap.size ≤ W8.heap.size := Nat.le_trans hs8.hb (Nat.le_of_lt (loh hs8.cells))
       have HS8 := hdL hs8; have HX8 := hdL hx8; have HP8 := hdL hp8; have HY1 := hdL hy1; have HY2 := hdL hy2; have HY3 := hdL hy3; have HOW := hdL howW; have HOC := hdL howC; have HSH := hdL hsH; have HB78 := hdL hb78; have HB68 := hdL hb68; have HNN := hdL (And.intro hnn hnnC)
       clear hb78 hb68 hs8 hx8 hp8 hd8 hy1 hy2 hy3 howW howC hsH kW kC hW8 hnn hnnC
       go_cut [] (fun wx => ∃ (aW2 : Option Addr) (cW2 : Nat) (aC2 : Option Addr) (cC2 : Nat), Hid (SrAt wx Hb B w0.heap.size vp left (ws ++ st.runs (pn, p1, p2, p3)) (ch ++ [(pn, p1, p2, p3)]) (made' + 1) (.slice aW2 (n + m3) cW2) (.slice aC2 (nC + 1) cC2) (xs' ++ ys)) ∧ Hid (newOr (.slice aW2 (n + m3) cW2) (.slice aW' n cW') W8) ∧ Hid (newOr (.slice aC2 (nC + 1) cC2) (.slice aC' nC cC') W8) ∧ Hid (Ch (srF Hb (.slice aW' n cW') (.slice aC' nC cC')) W8 wx))
       case first =>
        refine UpV.start [(18, fun W : World => W.cell? ⟨Hb, 2, none⟩ = some (.slice aW' n cW') ∧ W.cell? ⟨Hb, 3, none⟩ = some (.slice aC' nC cC') ∧ W.cell? ⟨Bx, 7, none⟩ = some (.slice ra3 m3 rc3)), (14, fun W : World => W.cell? ⟨Bp, 0, none⟩ = some (.string T) ∧ W.cell? ⟨Bp, 1, none⟩ = some (.int .i64 p1) ∧ W.cell? ⟨Bp, 2, none⟩ = some (.int .i64 p2) ∧ W.cell? ⟨Bp, 3, none⟩ = some (.int .i64 p3))] (by kernel_rfl) ?_
        have hA0 : ∀ q ∈ ([(18, fun W : World => W.cell? ⟨Hb, 2, none⟩ = some (.slice aW' n cW') ∧ W.cell? ⟨Hb, 3, none⟩ = some (.slice aC' nC cC') ∧ W.cell? ⟨Bx, 7, none⟩ = some (.slice ra3 m3 rc3)), (14, fun W : World => W.cell? ⟨Bp, 0, none⟩ = some (.string T) ∧ W.cell? ⟨Bp, 1, none⟩ = some (.int .i64 p1) ∧ W.cell? ⟨Bp, 2, none⟩ = some (.int .i64 p2) ∧ W.cell? ⟨Bp, 3, none⟩ = some (.int .i64 p3))] : List (Nat × (World → Prop))), q.2 W8.drew := by
         intro q hq
         rcases List.mem_cons.1 hq with rfl | hq
         ·exact ⟨u0, u1, u2⟩
         ·obtain rfl := mSg.1 hq
          exact ⟨t0, t1, t2, t3⟩
        refine UpV.tp 0 (v := .pointer (some ⟨Hb, 0, none⟩)) rfl (Or.inl ⟨by rfl, ?_⟩) (owe_all hA0) ?_
        ·intro w hSw; rfl
        try simp only [Act.put, sqZ]
        refine UpV.tp 1 (v := .pointer (some ⟨Hb, 0, none⟩)) rfl (Or.inl ⟨by rfl, ?_⟩) (owe_all hA0) ?_
        ·intro w hSw; rfl
        try simp only [Act.put, sqZ]
        refine UpV.tp 2 (v := .pointer (some ⟨Hb, 0, none⟩)) rfl (Or.inl ⟨by rfl, ?_⟩) (owe_all hA0) ?_
        ·intro w hSw; rfl
        try simp only [Act.put, sqZ]
        refine UpV.tp 3 (v := .pointer (some ⟨Hb, 0, none⟩)) rfl (Or.inl ⟨by rfl, ?_⟩) (owe_all hA0) ?_
        ·intro w hSw; rfl
        try simp only [Act.put, sqZ]
        refine UpV.tp 4 (v := .pointer (some ⟨Hb, 2, none⟩)) rfl (Or.inl ⟨by rfl, ?_⟩) (owe_all hA0) ?_
        ·intro w hSw; rfl
        try simp only [Act.put, sqZ]
        refine UpV.tk 5 18 (v := .slice aW' n cW') rfl (mCs ..) (Or.inl ⟨by rfl, ?_⟩) (owe_all hA0) ?_
        ·intro w hSw; obtain ⟨s0, s1, s2⟩ := hSw; go_simp
        try simp only [Act.put, sqZ]
        refine UpV.tp 6 (v := .pointer (some ⟨Bx, 7, none⟩)) rfl (Or.inl ⟨by rfl, ?_⟩) (owe_all hA0) ?_
        ·intro w hSw; rfl
        try simp only [Act.put, sqZ]
        refine UpV.tk 7 18 (v := .slice ra3 m3 rc3) rfl (mCs ..) (Or.inl ⟨by rfl, ?_⟩) (owe_all hA0) ?_
        ·intro w hSw; obtain ⟨s0, s1, s2⟩ := hSw; go_simp
        try simp only [Act.put, sqZ]
        refine UpV.tp 9 (v := .pointer (some ⟨Hb, 0, none⟩)) rfl (Or.inl ⟨by rfl, ?_⟩) (owe_all hA0) ?_
        ·intro w hSw; rfl
        try simp only [Act.put, sqZ]
        refine UpV.tp 10 (v := .pointer (some ⟨Hb, 0, none⟩)) rfl (Or.inl ⟨by rfl, ?_⟩) (owe_all hA0) ?_
        ·intro w hSw; rfl
        try simp only [Act.put, sqZ]
        refine UpV.tp 11 (v := .pointer (some ⟨Hb, 3, none⟩)) rfl (Or.inl ⟨by rfl, ?_⟩) (owe_all hA0) ?_
        ·intro w hSw; rfl
        try simp only [Act.put, sqZ]
        refine UpV.tk 12 18 (v := .slice aC' nC cC') rfl (mCs ..) (Or.inl ⟨by rfl, ?_⟩) (owe_all hA0) ?_
        ·intro w hSw; obtain ⟨s0, s1, s2⟩ := hSw; go_simp
        try simp only [Act.put, sqZ]
        refine UpV.tk 13 14 (v := .agg #[.string T, .int .i64 p1, .int .i64 p2, .int .i64 p3]) rfl (mCm _ (mCs ..)) (Or.inl ⟨by rfl, ?_⟩) (owe_all hA0) ?_
        ·intro w hSw; obtain ⟨s0, s1, s2, s3⟩ := hSw; go_simp
        try simp only [Act.put, sqZ]
        refine UpV.two 8 14 (by kernel_rfl) rfl rfl ?_ ?_
        ·have howd : ownsC W8.drew w0.heap.size 59 2 (.slice aW' n cW') n xs' := HOW.out
         have hsrc := HY3.out W8.drew (Keep.of_block (fun _ _ _ => trivial) (Nat.le_refl _) (fun b _ _ => rfl))
         have hbase' : w0.heap.size ≤ W8.drew.heap.size := hbase
         intro K hK
         refine step_append_c rfl (.tmp 80) (.tmp 82) 60 60 rfl w0.heap.size 59 iD _ 2 40 Tryz.underlying60 hiD hzD0 hzD1 hzD2 rfl (.slice aW' n cW') (by first | rfl | (simp [Act.eval]; done) | (simp [Act.eval, Act.put]; done)) n xs' howd (.slice ra3 m3 rc3) (by first | rfl | (simp [Act.eval]; done) | (simp [Act.eval, Act.put]; done)) m3 ys hsrc (by unfold maxLen; omega) (by omega) hbase' ?_
         intro aW2 cW2 wa hoa hga ho1
         have hka : KP 59 W8 wa := KP.grown (A := W8.drew) hga HOW.out
         have hHa := hka _ _ _ _ (by decide) HSH.out
         have hXa := hka _ _ _ _ (by decide) HX8.out
         have hPa := hka _ _ _ _ (by decide) HP8.out
         have hsz : W8.heap.size ≤ wa.heap.size := hga.size
         have hCa : Ch (srF Hb (.slice aW' n cW') (.slice aC' nC cC')) W8 wa := (Ch.of_below (show Below W8.heap.size W8 W8.drew from (Below.refl _ _).drew) _).grown hga (fun k hk => .inl (mem_srF.2 (.inr (.inl hk))))
         refine hK.out _ _ (owe2 (fun _ => ⟨cOh hHa 2, cOh hHa 3, cOh hXa 7⟩) (fun _ => ⟨cOh hPa 0, cOh hPa 1, cOh hPa 2, cOh hPa 3⟩)) ?_
         clear hK K
         try simp only [Act.put, sqZ]
         obtain ⟨wb, hwb, hbb, hxb, y1, y2⟩ := aBk wa #[.string T, .int .i64 p1, .int .i64 p2, .int .i64 p3] 41
         obtain ⟨Bk, hBk⟩ : ∃ b, wa.heap.size = b := ⟨_, rfl⟩
         have hHb := (hbb.block _ (loh hHa)).trans hHa
         have hXb := (hbb.block _ (loh hXa)).trans hXa
         refine UpV.one 14 (by kernel_rfl) rfl ?_
         intro K hK
         try simp only [sqG]
         try go_simp
         try rw [hBk]
         refine hK.out _ _ (owe2 (fun _ => ⟨cOh hHb 2, cOh hHb 3, cOh hXb 7⟩) (fun h => by cases h)) ?_
         clear hK K
         try simp only [Act.put, sqZ]
         rw [hBk] at hxb
         have hob := ownsC_below (hka.owns (by decide) HOC.out) hbb
         have hszb : w0.heap.size ≤ wb.heap.size := by have := hbb.size; omega
         refine UpV.one 15 (by kernel_rfl) rfl ?_
         intro K hK
         refine step_append_c rfl (.tmp 87) (.tmp 89) 22 22 rfl w0.heap.size 41 iP _ 4 40 Tryz.underlying22 hiP hzP0 hzP1 hzP2 rfl (.slice aC' nC cC') (by first | rfl | (simp [Act.eval]; done) | (simp [Act.eval, Act.put]; done)) nC (ch.flatMap pkL) hob (.slice (some ⟨Bk, 0, none⟩) 1 1) (by first | rfl | (simp [Act.eval]; done) | (simp [Act.eval, Act.put]; done)) 1 (pkL (pn, p1, p2, p3)) (Src.ofSlice _ Tryz.underlying22 ⟨Bk, 0, none⟩ 1 1 (pkL (pn, p1, p2, p3)) rfl (fun j u hj => by rw [HEQ.out] at hj; rw [Addr.add_lit, Nat.zero_add, cOh hxb]; simpa using hj) (pkL_one _)) (by unfold maxLen; omega) (by omega) hszb ?_
         intro aC2 cC2 wc hoc hgc ho2
         have hkc : KP 41 wb wc := KP.grown hgc hob
         have hKc : KP 41 wa wc := (KP.below hbb).trans hkc
         have hHc := hKc _ _ _ _ (by decide) hHa
         have hXc := hKc _ _ _ _ (by decide) hXa
         have hCc : Ch (srF Hb (.slice aW' n cW') (.slice aC' nC cC')) W8 wc := (hCa.trans (Ch.of_below hbb []) (fun x hx => by cases hx)).grown hgc (fun k hk => .inl (mem_srF.2 (.inr (.inr hk))))
         have hS1c : (fun W : World => W.cell? ⟨Hb, 2, none⟩ = some (.slice aW' n cW') ∧ W.cell? ⟨Hb, 3, none⟩ = some (.slice aC' nC cC') ∧ W.cell? ⟨Bx, 7, none⟩ = some (.slice ra3 m3 rc3)) wc := ⟨cOh hHc 2, cOh hHc 3, cOh hXc 7⟩
         have HOA := hdL hoa; have HO1 := hdL (newOr_of (w := W8) ho1)
         have hn2 : newOr (.slice aC2 (nC + 1) cC2) (.slice aC' nC cC') W8 := (newOr_of ho2).mono (by omega)
         refine hK.out _ _ (owe2 (fun _ => hS1c) (fun h => by cases h)) ?_
         clear hK K
         try simp only [Act.put, sqZ]
         have e1 := cOh hHc 2
         have ef := foh hHc
         unfold srC at e1
         refine UpV.tp 16 (v := .pointer (some ⟨Hb, 0, none⟩)) rfl (Or.inl ⟨by rfl, ?_⟩) (owe2 (fun _ => hS1c) (fun h => by cases h)) ?_
         ·intro w hSw; rfl
         try simp only [Act.put, sqZ]
         refine UpV.tp 17 (v := .pointer (some ⟨Hb, 2, none⟩)) rfl (Or.inl ⟨by rfl, ?_⟩) (owe2 (fun _ => hS1c) (fun h => by cases h)) ?_
         ·intro w hSw; rfl
         try simp only [Act.put, sqZ]
         refine UpV.one 18 (by kernel_rfl) rfl ?_
         intro K hK
         try simp only [sqG]
         try go_simp
         refine hK.out _ _ (owe2 (fun h => by cases h) (fun h => by cases h)) ?_
         clear hK K
         try simp only [Act.put, sqZ]
         refine UpV.tp 19 (v := .pointer (some ⟨Hb, 0, none⟩)) rfl (Or.inl ⟨by rfl, ?_⟩) (owe2 (fun h => by cases h) (fun h => by cases h)) ?_
         ·intro w hSw; rfl
         try simp only [Act.put, sqZ]
         refine UpV.tp 20 (v := .pointer (some ⟨Hb, 3, none⟩)) rfl (Or.inl ⟨by rfl, ?_⟩) (owe2 (fun h => by cases h) (fun h => by cases h)) ?_
         ·intro w hSw; rfl
         try simp only [Act.put, sqZ]
         obtain ⟨s2h, -⟩ := six_two (vW' := .slice aW2 (n + m3) cW2) (vC' := .slice aC2 (nC + 1) cC2) hHc
         have e2 := cOh s2h 3
         have ef2 := foh s2h
         unfold srC at e2
         refine UpV.one 21 (by kernel_rfl) rfl ?_
         intro K hK
         try simp only [sqG]
         try go_simp
         refine hK.out _ _ (owe2 (fun h => by cases h) (fun h => by cases h)) ?_
         clear hK K
         try simp only [Act.put, sqZ]
         refine UpV.done (by kernel_rfl) ?_
         go_wp2_with fail
         go_meet
         obtain ⟨v1, v2⟩ := push_end (p := (pn, p1, p2, p3)) (n0 := w6.heap.size) HS8.out (by rw [HNN.out.1, HNN.out.2]; exact hCc) hKc (by rw [← HM3.out, HNN.out.1]; exact HOA.out) (by rw [HNN.out.2]; exact hoc) (by rw [HNN.out.1, HNN.out.2]; exact hHc) (by rw [HNN.out.1]; exact HO1.out) (by rw [HNN.out.2]; exact hn2) HY2.out HLT6.out
         rw [HNN.out.1, HNN.out.2] at v2
         exact ⟨aW2, cW2, aC2, cC2, v1, HO1.out, hn2, v2⟩
        ·obtain ⟨wb, hwb, hbb', hxb, y1, y2⟩ := aBk W8.drew #[.string T, .int .i64 p1, .int .i64 p2, .int .i64 p3] 41
         have hbb : Below W8.heap.size W8 wb := ((Below.refl _ W8).drew).trans hbb'
         obtain ⟨Bk, hBk⟩ : ∃ b, W8.heap.size = b := ⟨_, rfl⟩
         have hHb := (hbb.block _ (loh HSH.out)).trans HSH.out
         have hXb := (hbb.block _ (loh HX8.out)).trans HX8.out
         have hxb' : wb.heap[Bk]? = some (.cells #[.string T, .int .i64 p1, .int .i64 p2, .int .i64 p3] 41 (0, 0)) := by rw [← hBk]; exact hxb
         intro K hK
         try simp only [sqG]
         try go_simp
         try rw [hBk]
         refine hK.out _ _ (owe2 (fun _ => ⟨cOh hHb 2, cOh hHb 3, cOh hXb 7⟩) (fun h => by cases h)) ?_
         clear hK K
         try simp only [Act.put, sqZ]
         have howb := ownsC_below HOW.out hbb
         have hszb : w0.heap.size ≤ wb.heap.size := by have := hbb.size; omega
         have hsrc := HY3.out wb (Keep.of_block (fun _ _ _ => trivial) hbb.size (fun b hb _ => hbb.block b hb))
         refine UpV.one 8 (by kernel_rfl) rfl ?_
         intro K hK
         refine step_append_c rfl (.tmp 80) (.tmp 82) 60 60 rfl w0.heap.size 59 iD _ 2 40 Tryz.underlying60 hiD hzD0 hzD1 hzD2 rfl (.slice aW' n cW') (by first | rfl | (simp [Act.eval]; done) | (simp [Act.eval, Act.put]; done)) n xs' howb (.slice ra3 m3 rc3) (by first | rfl | (simp [Act.eval]; done) | (simp [Act.eval, Act.put]; done)) m3 ys hsrc (by unfold maxLen; omega) (by omega) hszb ?_
         intro aW2 cW2 wa hoa hga ho1
         have hka : KP 59 wb wa := KP.grown hga howb
         have hHa := hka _ _ _ _ (by decide) hHb
         have hXa := hka _ _ _ _ (by decide) hXb
         have hxa := hka _ _ _ _ (by decide) hxb'
         have hsz : wb.heap.size ≤ wa.heap.size := hga.size
         have hsz2 := hbb.size
         have hsza : w0.heap.size ≤ wa.heap.size := by omega
         have hCa : Ch (srF Hb (.slice aW' n cW') (.slice aC' nC cC')) W8 wa := (Ch.of_below hbb _).grown hga (fun k hk => .inl (mem_srF.2 (.inr (.inl hk))))
         refine hK.out _ _ (owe2 (fun _ => ⟨cOh hHa 2, cOh hHa 3, cOh hXa 7⟩) (fun h => by cases h)) ?_
         clear hK K
         try simp only [Act.put, sqZ]
         have hob := hka.owns (by decide) (ownsC_below HOC.out hbb)
         refine UpV.one 15 (by kernel_rfl) rfl ?_
         intro K hK
         refine step_append_c rfl (.tmp 87) (.tmp 89) 22 22 rfl w0.heap.size 41 iP _ 4 40 Tryz.underlying22 hiP hzP0 hzP1 hzP2 rfl (.slice aC' nC cC') (by first | rfl | (simp [Act.eval]; done) | (simp [Act.eval, Act.put]; done)) nC (ch.flatMap pkL) hob (.slice (some ⟨Bk, 0, none⟩) 1 1) (by first | rfl | (simp [Act.eval]; done) | (simp [Act.eval, Act.put]; done)) 1 (pkL (pn, p1, p2, p3)) (Src.ofSlice _ Tryz.underlying22 ⟨Bk, 0, none⟩ 1 1 (pkL (pn, p1, p2, p3)) rfl (fun j u hj => by rw [HEQ.out] at hj; rw [Addr.add_lit, Nat.zero_add, cOh hxa]; simpa using hj) (pkL_one _)) (by unfold maxLen; omega) (by omega) hsza ?_
         intro aC2 cC2 wc hoc hgc ho2
         have hKc : KP 41 wa wc := KP.grown hgc hob
         have hHc := hKc _ _ _ _ (by decide) hHa
         have hXc := hKc _ _ _ _ (by decide) hXa
         have hCc : Ch (srF Hb (.slice aW' n cW') (.slice aC' nC cC')) W8 wc := hCa.grown hgc (fun k hk => .inl (mem_srF.2 (.inr (.inr hk))))
         have hS1c : (fun W : World => W.cell? ⟨Hb, 2, none⟩ = some (.slice aW' n cW') ∧ W.cell? ⟨Hb, 3, none⟩ = some (.slice aC' nC cC') ∧ W.cell? ⟨Bx, 7, none⟩ = some (.slice ra3 m3 rc3)) wc := ⟨cOh hHc 2, cOh hHc 3, cOh hXc 7⟩
         have HOA := hdL hoa; have HO1 := hdL ((newOr_of ho1).mono (w := W8) (by omega))
         have hn2 : newOr (.slice aC2 (nC + 1) cC2) (.slice aC' nC cC') W8 := (newOr_of ho2).mono (by omega)
         refine hK.out _ _ (owe2 (fun _ => hS1c) (fun h => by cases h)) ?_
         clear hK K
         try simp only [Act.put, sqZ]
         have e1 := cOh hHc 2
         have ef := foh hHc
         unfold srC at e1
         refine UpV.tp 16 (v := .pointer (some ⟨Hb, 0, none⟩)) rfl (Or.inl ⟨by rfl, ?_⟩) (owe2 (fun _ => hS1c) (fun h => by cases h)) ?_
         ·intro w hSw; rfl
         try simp only [Act.put, sqZ]
         refine UpV.tp 17 (v := .pointer (some ⟨Hb, 2, none⟩)) rfl (Or.inl ⟨by rfl, ?_⟩) (owe2 (fun _ => hS1c) (fun h => by cases h)) ?_
         ·intro w hSw; rfl
         try simp only [Act.put, sqZ]
         refine UpV.one 18 (by kernel_rfl) rfl ?_
         intro K hK
         try simp only [sqG]
         try go_simp
         refine hK.out _ _ (owe2 (fun h => by cases h) (fun h => by cases h)) ?_
         clear hK K
         try simp only [Act.put, sqZ]
         refine UpV.tp 19 (v := .pointer (some ⟨Hb, 0, none⟩)) rfl (Or.inl ⟨by rfl, ?_⟩) (owe2 (fun h => by cases h) (fun h => by cases h)) ?_
         ·intro w hSw; rfl
         try simp only [Act.put, sqZ]
         refine UpV.tp 20 (v := .pointer (some ⟨Hb, 3, none⟩)) rfl (Or.inl ⟨by rfl, ?_⟩) (owe2 (fun h => by cases h) (fun h => by cases h)) ?_
         ·intro w hSw; rfl
         try simp only [Act.put, sqZ]
         obtain ⟨s2h, -⟩ := six_two (vW' := .slice aW2 (n + m3) cW2) (vC' := .slice aC2 (nC + 1) cC2) hHc
         have e2 := cOh s2h 3
         have ef2 := foh s2h
         unfold srC at e2
         refine UpV.one 21 (by kernel_rfl) rfl ?_
         intro K hK
         try simp only [sqG]
         try go_simp
         refine hK.out _ _ (owe2 (fun h => by cases h) (fun h => by cases h)) ?_
         clear hK K
         try simp only [Act.put, sqZ]
         refine UpV.done (by kernel_rfl) ?_
         go_wp2_with fail
         go_meet
         obtain ⟨v1, v2⟩ := push_end (p := (pn, p1, p2, p3)) (n0 := w6.heap.size) HS8.out (by rw [HNN.out.1, HNN.out.2]; exact hCc) hKc (by rw [← HM3.out, HNN.out.1]; exact HOA.out) (by rw [HNN.out.2]; exact hoc) (by rw [HNN.out.1, HNN.out.2]; exact hHc) (by rw [HNN.out.1]; exact HO1.out) (by rw [HNN.out.2]; exact hn2) HY2.out HLT6.out
         rw [HNN.out.1, HNN.out.2] at v2
         exact ⟨aW2, cW2, aC2, cC2, v1, HO1.out, hn2, v2⟩
       obtain ⟨aW2, cW2, aC2, cC2, HS9, HNW9, HNC9, HCH9⟩ := hcut
       obtain ⟨W9, hW9⟩ : ∃ W, W = wc := ⟨_, rfl⟩
       subst hW9
       have hs9 : SrAt W9 Hb B w0.heap.size vp left (ws ++ st.runs (pn, p1, p2, p3)) (ch ++ [(pn, p1, p2, p3)]) ((made' + 1 : Nat) : Int) (.slice aW2 (n + m3) cW2) (.slice aC2 (nC + 1) cC2) (xs' ++ ys) := by
        rw [show (((made' + 1 : Nat)) : Int) = (made' : Int) + 1 from by omega]
        exact HS9.out
       have hw08 : Below w0.heap.size w0 W8 := HW6.out.trans (HB68.out.mono HW6.out.size)
       have hb8 : ∀ k ∈ srF Hb (.slice aW' n cW') (.slice aC' nC cC'), w0.heap.size ≤ k := fun k hk => HS8.out.base_le k (by rw [HNN.out.1, HNN.out.2]; exact hk)
       have hw09 : Below w0.heap.size w0 W9 := hw08.trans (boC HCH9.out hb8 hw08.size)
       have htr := HTR.out
       rw [HREST.out] at htr
       have hdr : (ws ++ st.runs (pn, p1, p2, p3)).drop (i + 1) = ws.drop (i + 1) ++ st.runs (pn, p1, p2, p3) := List.drop_append_of_le_length (by rw [HNN.out.1]; omega)
       cases hmt : meetF (st.fitsP pool) st.runs N b (ws.drop (i + 1) ++ st.runs (pn, p1, p2, p3)) (ch ++ [(pn, p1, p2, p3)]) with
       | none => rw [hmt] at htr; cases htr
       | some x =>
        have hble := meetF_le hmt
        rw [hmt] at htr
        rw [← hdr] at hmt
        have hF := IH.out W9 (ws ++ st.runs (pn, p1, p2, p3)) (ch ++ [(pn, p1, p2, p3)]) (made' + 1) _ _ (xs' ++ ys) (i + 1) x hw09 hs9 (by omega) (by rw [lAp, HNN.out.1]; omega) (by rw [lAp, HNN.out.1, ← HM3.out]; have := HLW.out; have := HBB.out; omega) (by rw [lAp, HNN.out.2, lSg]; have h1 := HLC.out; have h2 := HBB.out; rw [HNN.out.2] at h1; omega) (fun q hq => by rcases List.mem_append.1 hq with hq | hq; exact HPK.out q hq; rw [mSg.1 hq]; exact HPP.out) (by rw [show left - (made' + 1) = b from by have := HBB.out; omega]; exact hmt)
        rw [show (((i + 1 : Nat)) : Int) = (i : Int) + 1 from by omega] at hF
        have hc46 : Ch (srF Hb (.slice (some ⟨gW, 0, none⟩) n cW) vC) w4 w6 := ((HCHW.out).trans (Ch.of_below HB5.out (srF Hb (.slice (some ⟨gW, 0, none⟩) n cW) vC)) (fun x hx => .inl hx)).trans HCH6.out (fun x hx => .inl (mem_srF.2 (.inl (mSg.1 hx))))
        have hz68 := HB68.out.size
        have hz46 := hc46.size
        have hn4W : newOr (.slice aW' n cW') (.slice (some ⟨gW, 0, none⟩) n cW) w4 := by have h := hnw.out; rw [HNN.out.1] at h; exact h
        have hn4C : newOr (.slice aC' nC cC') vC w4 := by have h := hnc.out; rw [HNN.out.2] at h; exact h
        have hc49 : Ch (srF Hb (.slice (some ⟨gW, 0, none⟩) n cW) vC) w4 W9 := (hc46.trans (Ch.of_below HB68.out (srF Hb (.slice (some ⟨gW, 0, none⟩) n cW) vC)) (fun x hx => .inl hx)).trans HCH9.out (srF_sub hn4W hn4C)
        have hn2W : newOr (.slice aW2 (n + m3) cW2) (.slice (some ⟨gW, 0, none⟩) n cW) w4 := HNW9.out.trans hn4W (by omega)
        have hn2C : newOr (.slice aC2 (nC + 1) cC2) vC w4 := HNC9.out.trans hn4C (by omega)
        have HF := hdL hF; have HTR2 := hdL htr; have HC49 := hdL hc49; have HN2W := hdL hn2W; have HN2C := hdL hn2C; have HBLE := hdL hble; have HW09 := hdL hw09
        clear hF htr hmt hdr hc46 hz68 hz46 hn4W hn4C hc49 hn2W hn2C hs9 hw08 hb8 hw09 hble
        go_wp2_with fail
        refine HF.out.mono ?_
        intro e w10 hfr
        obtain ⟨res, b'⟩ := x
        have hc10 : Ch (srF Hb (.slice (some ⟨gW, 0, none⟩) n cW) vC) w w10 := ((Ch.of_below HB4.out _).trans HC49.out (fun x hx => .inl hx)).trans hfr.1 (fun x hx => (srF_sub HN2W.out HN2C.out x hx).imp id (fun h => Nat.le_trans HZ4.out h))
        cases res with
        | ok c =>
         obtain ⟨-, rfl, vW3, vC3, f1, f2, f3⟩ := hfr
         have HF3 := hdL ((f3.trans HN2C.out HC49.out.size).mono HZ4.out)
         have HRR := hdL (show r = (.ok c, b') from (sIj HTR2.out).symm)
         have HC10 := hdL hc10; have HF1 := hdL f1; have HF2 := hdL f2
         clear hc10 f1 f2 f3
         go_wp2_with fail
         go_ret
         rw [HRR.out, HNN.out.1]
         exact ⟨HC10.out, rfl, vW3, vC3, HF1.out, HF2.out, HF3.out⟩
        | budget =>
         obtain ⟨-, rfl, vW3, vC3, f1⟩ := hfr
         have HRR := hdL (show r = (.budget, b') from (sIj HTR2.out).symm)
         have HC10 := hdL hc10; have HF1 := hdL f1
         clear hc10 f1
         go_wp2_with fail
         refine ⟨rfl, ?_⟩
         rw [HRR.out, HNN.out.1]
         exact ⟨HC10.out, rfl, vW3, vC3, HF1.out⟩
        | clash =>
         obtain ⟨hch10, rfl, vW3, vC3, xs3, f1, f2, f3⟩ := hfr
         obtain ⟨aW3, cW3, rfl, hcw3⟩ := ownsC_form f1.wown
         obtain ⟨aC3, cC3, rfl, hcc3⟩ := ownsC_form f1.cown
         have hl3 : (ws ++ st.runs (pn, p1, p2, p3)).length = n + m3 := by rw [lAp, HNN.out.1, HM3.out]
         have hl4 : (ch ++ [(pn, p1, p2, p3)]).length = nC + 1 := by rw [lAp, HNN.out.2, lSg]
         rw [hl3] at hcw3 f2
         rw [hl4] at hcc3 f3
         have hs10 := f1
         rw [hl3, hl4] at hs10
         have u0 := cOh hs10.cells 2
         have u1 := cOh hs10.cells 3
         unfold srC at u0 u1
         have hwn : n ≤ cW3 := by omega
         have hcn : nC ≤ cC3 := by omega
         have HS10 := hdL hs10; have HC10 := hdL hc10; have HF2 := hdL f2; have HF3 := hdL f3; have HCH10 := hdL hch10
         clear hs10 f1 f2 f3 hl3 hl4 hc10 hch10 hcw3 hcc3
         go_upto_region 16 with fail
         refine UpV.start [(18, fun W : World => W.cell? ⟨Hb, 2, none⟩ = some (.slice aW3 (n + m3) cW3) ∧ W.cell? ⟨Hb, 3, none⟩ = some (.slice aC3 (nC + 1) cC3))] (by kernel_rfl) ?_
         obtain ⟨Wd, hWd⟩ : ∃ W, W = w10.drew := ⟨_, rfl⟩
         rw [← hWd]
         have hHd : Wd.heap[Hb]? = some (.cells (srC B vp (.slice aW3 (n + m3) cW3) (.slice aC3 (nC + 1) cC3) left (left - b')) 146 (0, 0)) := by rw [hWd]; exact HS10.out.cells
         have hchd : Ch [Hb] w10 Wd := by rw [hWd]; exact (Ch.refl [Hb] w10).drew
         clear hWd
         have e1 := cOh hHd 2
         have e1' := cOh hHd 3
         have ef := foh hHd
         unfold srC at e1 e1'
         have hA0 : ∀ q ∈ ([(18, fun W : World => W.cell? ⟨Hb, 2, none⟩ = some (.slice aW3 (n + m3) cW3) ∧ W.cell? ⟨Hb, 3, none⟩ = some (.slice aC3 (nC + 1) cC3))] : List (Nat × (World → Prop))), q.2 Wd := by
          intro q hq
          obtain rfl := mSg.1 hq
          exact ⟨e1, e1'⟩
         refine UpV.tp 0 (v := .pointer (some ⟨Hb, 0, none⟩)) rfl (Or.inl ⟨by rfl, ?_⟩) (owe_all hA0) ?_
         ·intro w hSw; rfl
         try simp only [Act.put, sqZ]
         refine UpV.tp 1 (v := .pointer (some ⟨Hb, 0, none⟩)) rfl (Or.inl ⟨by rfl, ?_⟩) (owe_all hA0) ?_
         ·intro w hSw; rfl
         try simp only [Act.put, sqZ]
         refine UpV.tp 2 (v := .pointer (some ⟨Hb, 0, none⟩)) rfl (Or.inl ⟨by rfl, ?_⟩) (owe_all hA0) ?_
         ·intro w hSw; rfl
         try simp only [Act.put, sqZ]
         refine UpV.tp 3 (v := .pointer (some ⟨Hb, 0, none⟩)) rfl (Or.inl ⟨by rfl, ?_⟩) (owe_all hA0) ?_
         ·intro w hSw; rfl
         try simp only [Act.put, sqZ]
         refine UpV.tp 4 (v := .pointer (some ⟨Hb, 2, none⟩)) rfl (Or.inl ⟨by rfl, ?_⟩) (owe_all hA0) ?_
         ·intro w hSw; rfl
         try simp only [Act.put, sqZ]
         refine UpV.tk 5 18 (v := .slice aW3 (n + m3) cW3) rfl (mCs ..) (Or.inl ⟨by rfl, ?_⟩) (owe_all hA0) ?_
         ·intro w hSw; obtain ⟨s0, s1⟩ := hSw; go_simp
         try simp only [Act.put, sqZ]
         refine UpV.tp 6 (v := .int .i64 n) rfl (Or.inl ⟨by rfl, ?_⟩) (owe_all hA0) ?_
         ·intro w hSw; rfl
         try simp only [Act.put, sqZ]
         refine UpV.tp 7 (v := .int .i64 n) rfl (Or.inl ⟨by rfl, ?_⟩) (owe_all hA0) ?_
         ·intro w hSw; rfl
         try simp only [Act.put, sqZ]
         refine UpV.tp 8 (v := .slice aW3 n n) rfl (Or.inl ⟨by rfl, ?_⟩) (owe_all hA0) ?_
         ·intro w hSw; go_simp
         try simp only [Act.put, sqZ]
         refine UpV.tp 9 (v := .pointer (some ⟨Hb, 0, none⟩)) rfl (Or.inl ⟨by rfl, ?_⟩) (owe_all hA0) ?_
         ·intro w hSw; rfl
         try simp only [Act.put, sqZ]
         refine UpV.tp 10 (v := .pointer (some ⟨Hb, 0, none⟩)) rfl (Or.inl ⟨by rfl, ?_⟩) (owe_all hA0) ?_
         ·intro w hSw; rfl
         try simp only [Act.put, sqZ]
         refine UpV.tp 11 (v := .pointer (some ⟨Hb, 3, none⟩)) rfl (Or.inl ⟨by rfl, ?_⟩) (owe_all hA0) ?_
         ·intro w hSw; rfl
         try simp only [Act.put, sqZ]
         refine UpV.tk 12 18 (v := .slice aC3 (nC + 1) cC3) rfl (mCs ..) (Or.inl ⟨by rfl, ?_⟩) (owe_all hA0) ?_
         ·intro w hSw; obtain ⟨s0, s1⟩ := hSw; go_simp
         try simp only [Act.put, sqZ]
         refine UpV.tp 13 (v := .int .i64 nC) rfl (Or.inl ⟨by rfl, ?_⟩) (owe_all hA0) ?_
         ·intro w hSw; rfl
         try simp only [Act.put, sqZ]
         refine UpV.tp 14 (v := .int .i64 nC) rfl (Or.inl ⟨by rfl, ?_⟩) (owe_all hA0) ?_
         ·intro w hSw; rfl
         try simp only [Act.put, sqZ]
         refine UpV.tp 15 (v := .slice aC3 nC nC) rfl (Or.inl ⟨by rfl, ?_⟩) (owe_all hA0) ?_
         ·intro w hSw; go_simp
         try simp only [Act.put, sqZ]
         refine UpV.tp 16 (v := .pointer (some ⟨Hb, 0, none⟩)) rfl (Or.inl ⟨by rfl, ?_⟩) (owe_all hA0) ?_
         ·intro w hSw; rfl
         try simp only [Act.put, sqZ]
         refine UpV.tp 17 (v := .pointer (some ⟨Hb, 2, none⟩)) rfl (Or.inl ⟨by rfl, ?_⟩) (owe_all hA0) ?_
         ·intro w hSw; rfl
         try simp only [Act.put, sqZ]
         refine UpV.one 18 (by kernel_rfl) rfl ?_
         intro K hK
         try simp only [sqG]
         try go_simp
         refine hK.out _ _ (owe1 (fun h => by cases h)) ?_
         clear hK K
         try simp only [Act.put, sqZ]
         refine UpV.tp 19 (v := .pointer (some ⟨Hb, 0, none⟩)) rfl (Or.inl ⟨by rfl, ?_⟩) (owe1 (fun h => by cases h)) ?_
         ·intro w hSw; rfl
         try simp only [Act.put, sqZ]
         refine UpV.tp 20 (v := .pointer (some ⟨Hb, 3, none⟩)) rfl (Or.inl ⟨by rfl, ?_⟩) (owe1 (fun h => by cases h)) ?_
         ·intro w hSw; rfl
         try simp only [Act.put, sqZ]
         obtain ⟨s2h, s3h⟩ := six_two (vW' := .slice aW3 n n) (vC' := .slice aC3 nC nC) hHd
         have e2 := cOh s2h 3
         have ef2 := foh s2h
         unfold srC at e2
         refine UpV.one 21 (by kernel_rfl) rfl ?_
         intro K hK
         try simp only [sqG]
         try go_simp
         refine hK.out _ _ (owe1 (fun h => by cases h)) ?_
         clear hK K
         try simp only [Act.put, sqZ]
         refine UpV.done (by kernel_rfl) ?_
         have hcf : Ch [Hb] w10 ((Wd.setCell ⟨Hb, 2, none⟩ (.slice aW3 n n)).setCell ⟨Hb, 3, none⟩ (.slice aC3 nC nC)) := (hchd.setCell (p := ⟨Hb, 2, none⟩) (.inl (List.mem_singleton_self _)) _).setCell (p := ⟨Hb, 3, none⟩) (.inl (List.mem_singleton_self _)) _
         obtain ⟨W11, hW11⟩ : ∃ W, W = (Wd.setCell ⟨Hb, 2, none⟩ (.slice aW3 n n)).setCell ⟨Hb, 3, none⟩ (.slice aC3 nC nC) := ⟨_, rfl⟩
         rw [← hW11] at hcf s3h ⊢
         have hs11 := HS10.out.pop (by rw [HNN.out.1, HNN.out.2]; exact s3h) hcf
         have HS11 := hdL hs11; have HCF := hdL hcf; have HTRY2 := hdL HTR2.out
         clear hs11 hcf s2h s3h e1 e1' e2 ef ef2 u0 u1 hA0 hW11 hHd hchd
         go_wp2_with fail
         go_roundw
         case rel =>
          have hz9 := HC49.out.size
          have hz10 := HCH10.out.size
          have hnW : newOr (.slice aW3 ws.length ws.length) (.slice (some ⟨gW, 0, none⟩) n cW) w4 := by
           have h := HF2.out.trans HN2W.out hz9
           unfold newOr at h ⊢
           rw [own_len aW3 ws.length ws.length (n + m3) cW3]
           exact h
          have hnC' : newOr (.slice aC3 ch.length ch.length) vC w4 := by
           have h := HF3.out.trans HN2C.out hz9
           unfold newOr at h ⊢
           rw [own_len aC3 ch.length ch.length (nC + 1) cC3]
           exact h
          have hb1 := HBLE.out
          have hb2 := HBB.out
          try dsimp only at hb1
          have hs12 := HS11.out
          rw [show ((left : Int) - (b' : Int)) = (((left - b' : Nat)) : Int) from by omega] at hs12
          refine ⟨k + 1, left - b', .slice aW3 ws.length ws.length, .slice aC3 ch.length ch.length, _, by go_num, hlt, by omega, by omega, hs12, hnW, hnC', ?_, ?_⟩
          ·exact (HC49.out.trans HCH10.out (srF_sub HN2W.out HN2C.out)).trans HCF.out (fun x hx => .inl (mem_srF.2 (.inl (mSg.1 hx))))
          ·rw [show left - (left - b') = b' from by omega, HREST.out]
           exact HTRY2.out
         case measure => simp [intOf]; omega
      ·have HDEC := hdL (decide_no w5 Hb B vp vW' vC' left made' hs5.cells (by omega) (by omega) (by omega))
       have hml2 : made' = left := by omega
       have hrr : r = (.budget, 0) := by
        rw [hml2, Nat.sub_self] at htr'
        unfold tryF at htr'
        exact (sIj htr').symm
       have HRR := hdL hrr
       clear hp hdk hgc hgl hT hm3 hpp htr' hrec0 hs5 hx5 hb5 y1 y2 hg1 hg2 hrr htr hsr
       go_wp2_with fail
       refine HDEC.out.mono ?_
       rintro e w6 ⟨rfl, hb6⟩
       have hs6 := HS5.out.below hb6
       have HCHF := hdL (((Ch.of_below HB4.out _).trans hch.out (fun x hx => .inl hx)).trans ((Ch.of_below (HB5.out.trans (hb6.mono HB5.out.size)) (srF Hb (.slice (some ⟨gW, 0, none⟩) n cW) vC))) (fun x hx => .inl hx))
       have HS6 := hdL hs6
       clear hb6 hs6 c0 c1 c2 c3
       go_wp2_with fail
       refine ⟨rfl, ?_⟩
       rw [HRR.out, ← HN.out]
       refine ⟨HCHF.out, rfl, vW', vC', ?_⟩
       have h1 := HS6.out.cells
       rw [show ((left : Int) - ((0 : Nat) : Int)) = (made' : Int) from by omega]
       exact h1
     ·obtain rfl : k = nL := by omega
      have hrr : r = (.clash, left - made') := by
       have h := htr.out
       rw [HNL.out, List.drop_length] at h
       unfold tryF at h
       cases hz : left - made' with
       | zero => rw [hz] at h; exact (sIj h).symm
       | succ m => rw [hz] at h; exact (sIj h).symm
      have HRR := hdL hrr
      have HCHW := hdL ((Ch.of_below HB4.out (srF Hb (.slice (some ⟨gW, 0, none⟩) n cW) vC)).trans hch.out (fun x hx => .inl hx))
      clear hrr htr hch
      go_wp2_with fail
      go_ret
      rw [HRR.out, ← HN.out]
      refine ⟨HCHW.out, rfl, vW', vC', xs', ?_, hnw.out.mono HZ4.out, hnc.out.mono HZ4.out⟩
      have h1 := hsr.out
      rw [show ((left : Int) - ((left - made' : Nat) : Int)) = (made' : Int) from by omega]
      exact h1
end Go.Proofs.YtaagkndhgicifaaGreat
