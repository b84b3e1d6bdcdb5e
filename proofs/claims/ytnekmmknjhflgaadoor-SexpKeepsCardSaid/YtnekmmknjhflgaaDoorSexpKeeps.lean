/- DERIVED. The law SexpKeeps, walked. -/
import Derived.Test.YtnekmmknjhflgaaDoorSexpSpoil
namespace Go.Proofs.YtnekmmknjhflgaaDoor
open Go.RowKit
set_option linter.unusedVariables false

/-- An owned row of nodes, as a source of an append. -/
theorem own_src {w : World} {base n c : Nat} {a : Option Addr} {xs : List Value} (h : w.ownsRow base 24 3 (.slice a n c) n xs) (h1 : ∀ u ∈ xs, u.oneCell' = true) : ∀ W, Below w.heap.size w W → Src Tryd.prog 3 22 (.slice a n c) n xs W := by
  intro W hW
  rcases h.2 with ⟨he, hx⟩ | ⟨g, cap, cur, he, _, hg, _, _, _, ht⟩
  · obtain ⟨rfl, rfl, rfl⟩ := Value.slice.inj he
    have : xs = [] := List.eq_nil_of_length_eq_zero (by have := h.1; simpa using this)
    subst this
    exact Src.ofNil W Tryd.underlying22 0
  · obtain ⟨rfl, _, rfl⟩ := Value.slice.inj he
    refine Src.ofSlice W Tryd.underlying22 ⟨g, 0, none⟩ n c xs h.1 (fun j u hj => ?_) h1
    have hg2 : W.heap[g]? = _ := (hW.block g (lt_of_heap hg)).trans hg
    rw [Addr.add_lit, Nat.zero_add, cell_of_heap hg2]
    rw [← ht, List.getElem?_take] at hj
    split at hj
    · simpa using hj
    · cases hj
/-- What Decode answers, with its blocks. -/
theorem DecTo.foot {w w' : World} {X : Except Int T} {e : Ending} (h : DecTo w X e w') : ∃ l sx a n c G, e = .returned (.tuple #[.agg #[.bool l, .string sx, .slice a n c], .int .i64 (decP X).2]) ∧ Below w.heap.size w w' ∧ Inv G w' ∧ (∀ l b n, G l b n → l < 32 ∧ w.heap.size ≤ b ∧ b < w'.heap.size) ∧ ListIn G 0 (.slice a n c) := by
  cases X with
  | error f =>
    obtain ⟨rfl, hb⟩ := h
    exact ⟨_, _, _, _, _, fun _ _ _ => False, rfl, hb, fun _ _ _ h => h.elim, fun _ _ _ h => h.elim, .inl rfl⟩
  | ok t =>
    obtain ⟨v0, v1, v2, G, rfl, hb, hm⟩ := h
    have hl := hm.node.list.1
    obtain ⟨l, sx, a, n, c, rfl, rfl, rfl⟩ := hm.node.form
    exact ⟨l, sx, a, n, c, G, rfl, hb, hm.inv, fun l b n hg => (hm.foot l b n hg).2, hl⟩
theorem ownsRow_block {w : World} {base n c : Nat} {a : Option Addr} {xs : List Value} (h : w.ownsRow base 24 3 (.slice a n c) n xs) (hn : 0 < n) : ∃ g cur, a = some ⟨g, 0, none⟩ ∧ w.heap[g]? = some (.cells cur 24 (0, 0)) ∧ n * 3 ≤ cur.size := by
  rcases h.2 with ⟨he, hx⟩ | ⟨g, cap, cur, he, _, hg, hle, _, hs, ht⟩
  · obtain ⟨_, rfl, _⟩ := Value.slice.inj he; omega
  · obtain ⟨rfl, _, rfl⟩ := Value.slice.inj he
    exact ⟨g, cur, rfl, hg, by omega⟩
theorem owns_len {w : World} {base n n' c : Nat} {a : Option Addr} {xs : List Value} (h : w.ownsRow base 24 3 (.slice a n' c) n xs) : n' = n := by
  rcases h.2 with ⟨he, hx⟩ | ⟨g, cap, cur, he, _⟩
  · obtain ⟨_, rfl, _⟩ := Value.slice.inj he
    have := h.1; rw [hx] at this; simp at this; omega
  · exact (Value.slice.inj he).2.1
theorem node_of_row {w : World} {base c : Nat} {a : Option Addr} {ts : List T} {xs : List Value} (hl : ts.length ≤ 140737488351232) (hk : KidsVA w ts xs) (ho : w.ownsRow base 24 3 (.slice a ts.length c) ts.length xs) :
    NodeAt w (.mk false [] ts) (.bool false) (.string ⟨#[]⟩) (.slice a ts.length c) := by
  unfold NodeAt
  have hcap := owns_cap ho
  rcases ho.2 with ⟨he, hx⟩ | ⟨g, cap, cur, he, hg0, hg, hn, hm, hc, ht⟩
  · obtain ⟨rfl, h0, rfl⟩ := Value.slice.inj he
    refine ⟨rfl, rfl, Nat.zero_le _, hl, none, 0, rfl, hcap.1, hcap.2, fun _ => rfl, .inl (List.eq_nil_of_length_eq_zero h0)⟩
  · obtain ⟨rfl, _, rfl⟩ := Value.slice.inj he
    refine ⟨rfl, rfl, Nat.zero_le _, hl, _, c, rfl, hcap.1, hcap.2, (fun h => (Option.some_ne_none _ h).elim), .inr ⟨g, 0, rfl, ?_⟩⟩
    refine KidsVA.kids hk fun i u hi => ?_
    rw [cell_of_heap hg, Nat.zero_add]
    rw [← ht, List.getElem?_take] at hi
    split at hi
    · simpa using hi
    · cases hi
set_option maxRecDepth 100000 in
set_option maxHeartbeats 8000000 in
theorem keeps_any (t : T) (S : ByteArray) (w : World) (v0 v1 v2 : Value) (hn : NodeAt w t v0 v1 v2) (hS : S.size ≤ 140737488351232) (htab : Tab w) :
    Calls Tryd.prog 8 #[.agg #[v0, v1, v2], .string S] w (fun e w' => e = .returned (.bool true) ∧ Below w.heap.size w w') := by
  obtain ⟨lt_, at_, ks⟩ := t
  obtain ⟨rfl, rfl, ha, hkl, an, cn, rfl, hnc, hncm, _⟩ := hn.open
  simp only [T.leaf, T.atom, T.kids] at hn ha hkl hnc ⊢
  have HSELF : Hid (NodeAt w (.mk false [] ks) (.bool false) (.string ⟨#[]⟩) (.slice an ks.length cn)) := Lib.hid (by
    unfold NodeAt at hn ⊢
    obtain ⟨_, _, h2, h3, a, c, h4, h5, h6, h7, h8⟩ := hn
    exact ⟨rfl, rfl, Nat.zero_le _, h3, a, c, h4, h5, h6, h7, h8⟩)
  obtain ⟨SA, hSA⟩ : ∃ X, strV at_ = .string X := ⟨_, rfl⟩
  obtain ⟨n, hnn⟩ : ∃ n, n = ks.length := ⟨_, rfl⟩
  rw [hSA, ← hnn] at hn ⊢
  rw [← hnn] at hkl hnc HSELF
  obtain ⟨c0, c1, c2⟩ := box_cells w (.bool lt_) (.string SA) (.slice an n cn)
  have hb1 : Below w.heap.size w (w.alloc (.cells #[.bool lt_, .string SA, .slice an n cn] 24)) := (Below.refl _ w).alloc (Nat.le_refl _) _
  obtain ⟨w1, hw1⟩ : ∃ w1, w.alloc (.cells #[.bool lt_, .string SA, .slice an n cn] 24) = w1 := ⟨_, rfl⟩
  rw [hw1] at hb1 c0 c1 c2
  have HAL := Lib.hid (alive_any w1 (htab.below hb1))
  have HG1 := Lib.hid (fun W (hb : Below w.heap.size w W) => great_any (.mk lt_ at_ ks) W _ _ _ (hn.below hb))
  have HCP := Lib.hid (fun W (hb : Below w.heap.size w W) (hg : greatT (.mk lt_ at_ ks) = false) => copy_any (SizeOf.sizeOf (T.mk lt_ at_ ks)) (.mk lt_ at_ ks) (Nat.le_refl _) (few_of_great hg) W _ _ _ (hn.below hb))
  have HFW := Lib.hid (fun (hg : greatT (.mk lt_ at_ ks) = false) => (show n ≤ 131072 from by rw [hnn]; exact (few_of_great hg).kids.1))
  have HDS := Lib.hid (fun W (hb : Below w.heap.size w W) => dec_any W S hS (htab.below hb))
  have HDF := Lib.hid (fun W (hb : Below w.heap.size w W) => decf_any W S hS (htab.below hb))
  have HRD := Lib.hid (fun W => rdecf_any W S hS)
  have HEN := Lib.hid (fun u W x0 x1 x2 (h : NodeAt W u x0 x1 x2) (hb : Below w.heap.size w W) => enc_any u W x0 x1 x2 h (htab.below hb))
  have HB := Lib.hid hb1; have HN := Lib.hid hn
  obtain ⟨XS, hXS⟩ : ∃ X, X = decT S.data.toList := ⟨_, rfl⟩
  rw [← hXS] at HDS HDF HRD
  obtain ⟨q1, hq1⟩ : ∃ q, q = greatT (.mk lt_ at_ ks) := ⟨_, rfl⟩
  rw [← hq1] at HG1 HCP HFW
  have HW1 : Hid (w1.heap.size = w.heap.size + 1) := Lib.hid (by rw [← hw1]; simp)
  have HNN := Lib.hid hnn; have HSA := Lib.hid hSA; have HA := Lib.hid ha
  clear hq1 hXS hb1 hn htab hnn hSA
  go_enter Tryd.func8, Tryd.ntmps8
  go_wp2_with fail
  refine HAL.out.mono ?_
  rintro e w3 ⟨rfl, hb3⟩
  replace c0 := below_keeps hb3 _ _ c0
  replace c1 := below_keeps hb3 _ _ c1
  replace c2 := below_keeps hb3 _ _ c2
  have HB3 := Lib.hid (HB.out.trans (hb3.mono HB.out.size)); clear hb3
  go_wp2_with fail
  refine (HG1.out w3 HB3.out).mono ?_
  rintro e w4 ⟨rfl, hb4⟩
  replace c0 := below_keeps hb4 _ _ c0
  replace c1 := below_keeps hb4 _ _ c1
  replace c2 := below_keeps hb4 _ _ c2
  have HB4 := Lib.hid (HB3.out.trans (hb4.mono HB3.out.size)); clear hb4
  have HC4 : Hid (w.heap.size < w4.heap.size) := Lib.hid (cell_lt c2)
  cases q1
  · by_cases hbig : 32768 < S.size
    · have hbd2 : decide ((32768 : Int) < (S.size : Int)) = true := by simp; omega
      go_wp2_with fail
      go_ret
      exact ⟨rfl, HB4.out⟩
    · have hbig' : S.size ≤ 32768 := by omega
      have hbd2 : decide ((32768 : Int) < (S.size : Int)) = false := by simp; omega
      have hn131 := HFW.out rfl
      have HCP4 := Lib.hid (HCP.out w4 HB4.out rfl)
      clear hbig HCP HFW
      go_wp2_with fail
      refine HCP4.out.mono ?_
      rintro e w5 ⟨a, n', c, p, xs, rfl, hst⟩
      have hst0 : CSt w4 ks (.slice a n' c) p xs w5 := hst
      have hnn' : n' = n := by rw [HNN.out]; exact owns_len hst0.own
      subst hnn'
      have hb45 := hst0.bel
      replace c0 := below_keeps hb45 _ _ c0
      replace c1 := below_keeps hb45 _ _ c1
      replace c2 := below_keeps hb45 _ _ c2
      have HB5 := Lib.hid (HB4.out.trans (hb45.mono HB4.out.size))
      clear hst hb45
      have hbw6 : Below w5.heap.size w5 (w5.alloc (.cells #[.bool lt_, .string SA, .slice a n' c] 24)) := (Below.refl _ w5).alloc (Nat.le_refl _) _
      obtain ⟨m0, m1, m2⟩ := box_cells w5 (.bool lt_) (.string SA) (.slice a n' c)
      obtain ⟨w6, hw6⟩ : ∃ w6, w5.alloc (.cells #[.bool lt_, .string SA, .slice a n' c] 24) = w6 := ⟨_, rfl⟩
      rw [hw6] at hbw6 m0 m1 m2
      have hst6 := hst0.keep hbw6
      replace c0 := below_keeps hbw6 _ _ c0
      replace c1 := below_keeps hbw6 _ _ c1
      replace c2 := below_keeps hbw6 _ _ c2
      have HB6 := Lib.hid (HB5.out.trans (hbw6.mono HB5.out.size))
      have hmine : NodeAt w6 (.mk lt_ at_ ks) (.bool lt_) (.string SA) (.slice a n' c) := by
        rw [← HSA.out]
        exact NodeP.at _ _ _ _ (hst6.node (by rw [← HNN.out]; omega) HA.out)
      have HEN6 := Lib.hid (HEN.out _ w6 _ _ _ hmine HB6.out)
      have HSZ56 : Hid (w5.heap.size < w6.heap.size) := Lib.hid (cell_lt m2)
      have HST6 := Lib.hid hst6; have HM6 := Lib.hid hmine
      have hmb := cell_lt m2
      have HMB : Hid (∀ g, (Value.slice a n' c).ownBlock = some g → g < w5.heap.size) := Lib.hid (fun g hg => owns_lt hst0.own g hg)
      have HMG : Hid (∀ g, (Value.slice a n' c).ownBlock = some g → w.heap.size < g) := Lib.hid (fun g hg => by have := owns_ge hst0.own g hg; have h1 := HC4.out; omega)
      clear hst0 hst6 hbw6 hmine hmb
      go_wp2_with fail
      refine HEN6.out.mono ?_
      rintro e w7 ⟨rfl, hb7⟩
      replace c0 := below_keeps hb7 _ _ c0
      replace c1 := below_keeps hb7 _ _ c1
      replace c2 := below_keeps hb7 _ _ c2
      replace m0 := below_keeps hb7 _ _ m0
      replace m1 := below_keeps hb7 _ _ m1
      replace m2 := below_keeps hb7 _ _ m2
      have HB7 := Lib.hid (HB6.out.trans (hb7.mono HB6.out.size))
      have hst7 := HST6.out.keep hb7
      have hLI : Calls Tryd.prog 19 #[.slice a n' c] w7 (fun e w' => ∃ a2 c2, e = .returned (.agg #[.bool false, .string ⟨#[]⟩, .slice a2 n' c2]) ∧ Below w7.heap.size w7 w' ∧ w'.ownsRow w7.heap.size 24 3 (.slice a2 n' c2) ks.length xs) := by
        have hkva := hst7.kids.at
        have hcap := owns_cap hst7.own
        have h := list_anyx w7 ks a c xs hkva (by rw [← HNN.out]; omega) hcap.1 (by have h1 := own_src (a := a) (n := ks.length) (c := c) (by have := hst7.own; rw [HNN.out] at this; exact this) hkva.one; exact h1)
        rw [← HNN.out] at h
        refine h.mono ?_
        rintro e w' ⟨a2, c2, rfl, hb, hk2, ho⟩
        exact ⟨a2, c2, by rw [HNN.out], hb, by rw [HNN.out]; exact ho⟩
      have HSZ57 : Hid (w5.heap.size ≤ w7.heap.size) := Lib.hid (by have := HSZ56.out; have := hb7.size; omega)
      have HB67 := Lib.hid hb7
      have HLI := Lib.hid hLI; have HST7 := Lib.hid hst7
      clear hLI hst7 hb7
      go_wp2_with fail
      refine HLI.out.mono ?_
      rintro e w8 ⟨a2, c2', rfl, hb8, ho8⟩
      replace c0 := below_keeps hb8 _ _ c0
      replace c1 := below_keeps hb8 _ _ c1
      replace c2 := below_keeps hb8 _ _ c2
      replace m0 := below_keeps hb8 _ _ m0
      replace m1 := below_keeps hb8 _ _ m1
      replace m2 := below_keeps hb8 _ _ m2
      have HB8 := Lib.hid (HB7.out.trans (hb8.mono HB7.out.size))
      have hst8 := HST7.out.keep hb8
      have HGE8 : Hid (w5.heap.size ≤ w7.heap.size) := Lib.hid HSZ57.out
      have HSZ78 : Hid (w7.heap.size ≤ w8.heap.size) := Lib.hid hb8.size
      have hbw9 : Below w8.heap.size w8 (w8.alloc (.cells #[.bool false, .string ⟨#[]⟩, .slice a2 n' c2'] 24)) := (Below.refl _ w8).alloc (Nat.le_refl _) _
      obtain ⟨x0, x1, x2⟩ := box_cells w8 (.bool false) (.string ⟨#[]⟩) (.slice a2 n' c2')
      obtain ⟨w9, hw9⟩ : ∃ w9, w8.alloc (.cells #[.bool false, .string ⟨#[]⟩, .slice a2 n' c2'] 24) = w9 := ⟨_, rfl⟩
      rw [hw9] at hbw9 x0 x1 x2
      replace c0 := below_keeps hbw9 _ _ c0
      replace c1 := below_keeps hbw9 _ _ c1
      replace c2 := below_keeps hbw9 _ _ c2
      replace m0 := below_keeps hbw9 _ _ m0
      replace m1 := below_keeps hbw9 _ _ m1
      replace m2 := below_keeps hbw9 _ _ m2
      have HB9 := Lib.hid (HB8.out.trans (hbw9.mono HB8.out.size))
      have HST9 := Lib.hid (hst8.keep hbw9)
      have HO9 := Lib.hid (ownsRow_keep (w' := w9) ho8 (fun g hg => hbw9.block g (owns_lt ho8 g hg)))
      have hS9 := samef_any (.mk lt_ at_ ks) (.mk lt_ at_ ks) w9 _ _ _ _ _ _ (HM6.out.below (HB67.out.trans ((hb8.trans (hbw9.mono hb8.size)).mono HB67.out.size))) (HN.out.below HB9.out)
      rw [sameT_refl] at hS9
      have HS9 := Lib.hid hS9
      clear hst8 ho8 hb8 hbw9 hS9
      go_wp2_with fail
      refine HS9.out.mono ?_
      rintro e w10 ⟨rfl, hb10⟩
      replace c0 := below_keeps hb10 _ _ c0
      replace c1 := below_keeps hb10 _ _ c1
      replace c2 := below_keeps hb10 _ _ c2
      replace m0 := below_keeps hb10 _ _ m0
      replace m1 := below_keeps hb10 _ _ m1
      replace m2 := below_keeps hb10 _ _ m2
      replace x0 := below_keeps hb10 _ _ x0
      replace x1 := below_keeps hb10 _ _ x1
      replace x2 := below_keeps hb10 _ _ x2
      have HB10 := Lib.hid (HB9.out.trans (hb10.mono HB9.out.size))
      have HST10 := Lib.hid (HST9.out.keep hb10)
      have HO10 := Lib.hid (ownsRow_keep (w' := w10) HO9.out (fun g hg => hb10.block g (owns_lt HO9.out g hg)))
      clear hb10
      obtain ⟨G0, hG0⟩ : ∃ G0 : List Nat, G0 = (Value.slice a n' c).ownBlock.toList := ⟨_, rfl⟩
      have hcell : ∀ W, Ch G0 w10 W → ∀ b i u, (∀ g, (Value.slice a n' c).ownBlock = some g → b ≠ g) → w10.cell? ⟨b, i, none⟩ = some u → W.cell? ⟨b, i, none⟩ = some u := by
        intro W hc b i u hb hu
        have hbk := hc.block b (cell_lt hu) (by rw [hG0]; intro h; exact hb b (by simpa using h) rfl)
        unfold World.cell? at hu ⊢
        rw [hbk]; exact hu
      have HCELL := Lib.hid hcell; have HG0 := Lib.hid hG0
      have HNM : Hid (∀ g, (Value.slice a n' c).ownBlock = some g → w5.heap.size ≠ g) := Lib.hid (fun g hg => by have := HMB.out g hg; omega)
      have HNC : Hid (∀ g, (Value.slice a n' c).ownBlock = some g → w.heap.size ≠ g) := Lib.hid (fun g hg => by have := HMG.out g hg; omega)
      have HNX : Hid (∀ g, (Value.slice a n' c).ownBlock = some g → w8.heap.size ≠ g) := Lib.hid (fun g hg => by have := HMB.out g hg; have := HGE8.out; have := HSZ78.out; omega)
      have hrow : 0 < n' → ∃ g cur, a = some ⟨g, 0, none⟩ ∧ w10.heap[g]? = some (.cells cur 24 (0, 0)) ∧ n' * 3 ≤ cur.size := fun h => ownsRow_block (by have := HST10.out.own; rw [← HNN.out] at this; exact this) h
      have HROW := Lib.hid hrow
      clear hcell hG0 hrow
      go_wp2_with fail
      go_loopw [37] (fun i wr => ∃ k : Nat, i = .int .i64 k ∧ k ≤ n' ∧ Hid (Ch G0 w10 wr) ∧ Hid (0 < n' → ∃ g cur, a = some ⟨g, 0, none⟩ ∧ wr.heap[g]? = some (.cells cur 24 (0, 0)) ∧ n' * 3 ≤ cur.size)) (fun i _ => n' - (intOf i).toNat)
      case atStart => exact ⟨0, rfl, Nat.zero_le _, Ch.refl _ _, HROW.out⟩
      case round =>
        obtain ⟨k, rfl, hkn, hch, hrw⟩ := hrel
        by_cases hlt : k < n'
        · have z2 := HCELL.out wr hch.out _ _ _ HNM.out m2
          obtain ⟨g, cur, rfl, hg, hsz⟩ := hrw.out (by omega)
          obtain ⟨q0, hq0⟩ : ∃ u, cur[k * 3]? = some u := ⟨_, Array.getElem?_eq_getElem (by omega)⟩
          obtain ⟨q1, hq1⟩ : ∃ u, cur[k * 3 + 1]? = some u := ⟨_, Array.getElem?_eq_getElem (by omega)⟩
          obtain ⟨q2, hq2⟩ : ∃ u, cur[k * 3 + 2]? = some u := ⟨_, Array.getElem?_eq_getElem (by omega)⟩
          have d0 : wr.cell? ⟨g, k * 3, none⟩ = some q0 := by rw [cell_of_heap hg]; exact hq0
          have d1 : wr.cell? ⟨g, k * 3 + 1, none⟩ = some q1 := by rw [cell_of_heap hg]; exact hq1
          have d2 : wr.cell? ⟨g, k * 3 + 2, none⟩ = some q2 := by rw [cell_of_heap hg]; exact hq2
          have df := frozen_of_heap hg
          have hcap : n' ≤ c := Nat.le_trans (Nat.le_of_eq HNN.out) (owns_cap HST10.out.own).1
          have e1 := heap_setCell_here (i := k * 3) (Value.bool true) hg
          have e2 := heap_setCell_here (i := k * 3 + 1) (Value.string ⟨#[115, 112, 111, 105, 108, 116]⟩) e1
          have e3 := heap_setCell_here (i := k * 3 + 2) (Value.slice none 0 0) e2
          have hmem : g ∈ G0 := by rw [HG0.out]; simp [Value.ownBlock]
          have HNX2 := Lib.hid (((hch.out.setCell (p := ⟨g, k * 3, none⟩) (.inl hmem) (.bool true)).setCell (p := ⟨g, k * 3 + 1, none⟩) (.inl hmem) (.string ⟨#[115, 112, 111, 105, 108, 116]⟩)).setCell (p := ⟨g, k * 3 + 2, none⟩) (.inl hmem) (.slice none 0 0))
          have HE3 := Lib.hid e3; have HSZC := Lib.hid hsz
          clear hg hq0 hq1 hq2 e1 e2 e3 hmem c0 c1 c2 m0 m1 m2 x0 x1 x2 hsz
          go_wp2_with fail
          go_roundw
          case rel => exact ⟨k + 1, by go_num, hlt, HNX2, fun _ => ⟨g, _, rfl, HE3.out, by have := HSZC.out; simpa using this⟩⟩
          case measure => simp [intOf]; omega
        · obtain rfl : k = n' := by omega
          have z0 := HCELL.out wr hch.out _ _ _ HNC.out c0
          have z1 := HCELL.out wr hch.out _ _ _ HNC.out c1
          have z2 := HCELL.out wr hch.out _ _ _ HNC.out c2
          have y2 := HCELL.out wr hch.out _ _ _ HNX.out x2
          have hbr : Below w.heap.size w wr := HB10.out.trans (below_of_ch hch.out (by intro g hg; rw [HG0.out] at hg; have := HMG.out g (by simpa using hg); omega) HB10.out.size)
          have hxo : wr.ownsRow w7.heap.size 24 3 (.slice a2 k c2') ks.length xs := ownsRow_keep HO10.out (fun g hg => hch.out.block g (owns_lt HO10.out g hg) (by
            rw [HG0.out]; intro h
            have h1 := owns_ge HO10.out g hg
            have h2 := HMB.out g (by simpa using h)
            have h3 := HSZ57.out
            omega))
          have hxk : KidsVA wr ks xs := (HST10.out.kids.mono (p' := p) (w' := wr) (fun _ h => h) (fun b hb => hch.out.block b (HST10.out.foot b hb).2.1 (by rw [HG0.out]; intro h; exact (HST10.out.foot b hb).2.2 (by simpa using h)))).at
          rw [HNN.out] at hxo
          have hxn := node_of_row (by rw [← HNN.out]; omega) hxk hxo
          rw [← HNN.out] at hxn
          have hS := samef_any _ _ wr _ _ _ _ _ _ hxn (HSELF.out.below hbr)
          rw [sameT_refl] at hS
          have HS := Lib.hid hS; have HBR := Lib.hid hbr
          have hkk : ((k : Int) != (k : Int)) = false := by simp
          clear hS hbr hxo hxk hxn c0 c1 c2 m0 m1 m2 x0 x1 x2
          go_wp2_with fail
          refine HS.out.mono ?_
          rintro e w11 ⟨rfl, hb11⟩
          have HB11 := Lib.hid (HBR.out.trans (hb11.mono HBR.out.size)); clear hb11 z0 z1 z2 y2
          go_wp2_with fail
          refine (HDS.out w11 HB11.out).mono ?_
          intro e w12 hd12
          obtain ⟨l1, sx1, a1, n1, cc1, G, rfl, hb12, hinv, hft, hin⟩ := hd12.foot
          obtain ⟨y, hy⟩ : ∃ y, y = (decP XS).2 := ⟨_, rfl⟩
          rw [← hy]
          have hbw13 : Below w12.heap.size w12 (w12.alloc (.cells #[.bool l1, .string sx1, .slice a1 n1 cc1] 24)) := (Below.refl _ w12).alloc (Nat.le_refl _) _
          obtain ⟨m0, m1, m2⟩ := box_cells w12 (.bool l1) (.string sx1) (.slice a1 n1 cc1)
          obtain ⟨w13, hw13⟩ : ∃ w13, w12.alloc (.cells #[.bool l1, .string sx1, .slice a1 n1 cc1] 24) = w13 := ⟨_, rfl⟩
          rw [hw13] at hbw13 m0 m1 m2
          have HB13 := Lib.hid (HB11.out.trans ((hb12.trans (hbw13.mono hb12.size)).mono HB11.out.size))
          have hsp := spoil_any 32 0 rfl G w13 l1 sx1 (.slice a1 n1 cc1) (hinv.keep (fun l b n hg => hbw13.block b (hft l b n hg).2.2)) (fun l b n hg => ⟨(hft l b n hg).1, Nat.lt_of_lt_of_le (hft l b n hg).2.2 hbw13.size⟩) hin
          have hsp2 : Calls Tryd.prog 20 #[.agg #[.bool l1, .string sx1, .slice a1 n1 cc1]] w13 (fun e w' => e = .returned (.tuple #[]) ∧ Below w.heap.size w w') := by
            refine hsp.mono ?_
            rintro e w' ⟨rfl, _, hch⟩
            refine ⟨rfl, HB13.out.trans (hch.below (fun l b n hg => ?_) HB13.out.size)⟩
            have h1 := (hft l b n hg).2.1
            have h2 := HB11.out.size
            omega
          have HSP := Lib.hid hsp2; have HY := Lib.hid hy
          clear hd12 hb12 hinv hft hin hbw13 hsp hsp2 hy
          go_wp2_with fail
          refine HSP.out.mono ?_
          rintro e w14 ⟨rfl, hb14⟩
          have HB14 := Lib.hid hb14; clear hb14 m0 m1 m2
          go_wp2_with fail
          refine (HDF.out w14 HB14.out).mono ?_
          rintro e w15 ⟨l2, sx2, a3, n3, cc3, rfl, hn2, hb15⟩
          rw [← HY.out]
          have hbw16 : Below w15.heap.size w15 (w15.alloc (.cells #[.bool l2, .string sx2, .slice a3 n3 cc3] 24)) := (Below.refl _ w15).alloc (Nat.le_refl _) _
          obtain ⟨m0, m1, m2⟩ := box_cells w15 (.bool l2) (.string sx2) (.slice a3 n3 cc3)
          obtain ⟨w16, hw16⟩ : ∃ w16, w15.alloc (.cells #[.bool l2, .string sx2, .slice a3 n3 cc3] 24) = w16 := ⟨_, rfl⟩
          rw [hw16] at hbw16 m0 m1 m2
          have HN16 := Lib.hid (hn2.below hbw16)
          have HB16 := Lib.hid (HB14.out.trans ((hb15.trans (hbw16.mono hb15.size)).mono HB14.out.size))
          clear hn2 hb15 hbw16
          go_wp2_with fail
          refine (HRD.out w16).mono ?_
          rintro e w17 ⟨l3, sx3, a4, n4, cc4, rfl, hn3, hb17⟩
          rw [← HY.out]
          have hbw18 : Below w17.heap.size w17 (w17.alloc (.cells #[.bool l3, .string sx3, .slice a4 n4 cc4] 24)) := (Below.refl _ w17).alloc (Nat.le_refl _) _
          obtain ⟨x0, x1, x2⟩ := box_cells w17 (.bool l3) (.string sx3) (.slice a4 n4 cc4)
          obtain ⟨w18, hw18⟩ : ∃ w18, w17.alloc (.cells #[.bool l3, .string sx3, .slice a4 n4 cc4] 24) = w18 := ⟨_, rfl⟩
          rw [hw18] at hbw18 x0 x1 x2
          have hb178 := hb17.trans (hbw18.mono hb17.size)
          replace m0 := below_keeps hb178 _ _ m0
          replace m1 := below_keeps hb178 _ _ m1
          replace m2 := below_keeps hb178 _ _ m2
          have HB18 := Lib.hid (HB16.out.trans (hb178.mono HB16.out.size))
          have hS18 := samef_any _ _ w18 _ _ _ _ _ _ (HN16.out.below hb178) (hn3.below hbw18)
          rw [sameT_refl] at hS18
          have HS18 := Lib.hid hS18
          have hyy : (y == y) = true := by simp
          clear hn3 hb17 hb178 hbw18 hS18
          go_wp2_with fail
          refine HS18.out.mono ?_
          rintro e w19 ⟨rfl, hb19⟩
          have HB19 := Lib.hid (HB18.out.trans (hb19.mono HB18.out.size)); clear hb19
          go_wp2_with fail
          go_ret
          exact ⟨rfl, HB19.out⟩
  · go_wp2_with fail
    go_ret
    exact ⟨rfl, HB4.out⟩
end Go.Proofs.YtnekmmknjhflgaaDoor
