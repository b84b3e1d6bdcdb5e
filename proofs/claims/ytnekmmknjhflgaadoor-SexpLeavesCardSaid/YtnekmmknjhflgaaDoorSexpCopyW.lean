/- DERIVED. The reference's Copy, walked. -/
import Derived.Test.YtnekmmknjhflgaaDoorSexpCopy
namespace Go.Proofs.YtnekmmknjhflgaaDoor
open Go.RowKit
set_option linter.unusedVariables false

theorem counts_len : ∀ (ks : List T) (L : Int), 0 ≤ countsT L ks → (ks.length : Int) ≤ L
  | [], L, h => by unfold countsT at h; simpa using h
  | k :: ks, L, h => by
    unfold countsT at h
    split at h
    · have h1 := counts_len ks _ h
      have h2 := countT_le k L
      simp; omega
    · omega
theorem counts_mem : ∀ (ks : List T) (L : Int), 0 ≤ countsT L ks → ∀ k ∈ ks, ∃ L', L' ≤ L ∧ 0 ≤ countT L' k
  | [], L, h, k, hk => by cases hk
  | x :: ks, L, h, k, hk => by
    unfold countsT at h
    split at h
    · have h1 := countsT_le ks (countT L x)
      have h2 := countT_le x L
      rcases List.mem_cons.1 hk with rfl | hk
      · exact ⟨L, by omega, by omega⟩
      · obtain ⟨L', h3, h4⟩ := counts_mem ks _ h k hk
        exact ⟨L', by omega, h4⟩
    · omega
/-- Few nodes. -/
def Few (t : T) : Prop := ∃ L : Int, L ≤ 131072 ∧ 0 ≤ countT L t
theorem Few.kids {t : T} (h : Few t) : t.kids.length ≤ 131072 ∧ ∀ k ∈ t.kids, Few k := by
  obtain ⟨l, a, ks⟩ := t
  obtain ⟨L, h1, h2⟩ := h
  unfold countT at h2
  have h3 := counts_len ks _ h2
  refine ⟨by show ks.length ≤ _; omega, fun k hk => ?_⟩
  obtain ⟨L', h4, h5⟩ := counts_mem ks _ h2 k hk
  exact ⟨L', by omega, h5⟩
theorem few_of_great {t : T} (h : greatT t = false) : Few t := by
  unfold greatT at h
  simp only [Bool.or_eq_false_iff, decide_eq_false_iff_not] at h
  exact ⟨131072, by omega, by omega⟩
theorem CSt.base {w w2 wr w' : World} {ts : List T} {v : Value} {p : Nat → Prop} {xs : List Value} (h : CSt w2 ts v p xs wr) (hs : w.heap.size ≤ w2.heap.size) (hb : Below w.heap.size w w') (hk : ∀ k, w2.heap.size ≤ k → w'.heap[k]? = wr.heap[k]?) (hz : wr.heap.size ≤ w'.heap.size) : CSt w ts v p xs w' := by
  refine ⟨?_, h.kids.mono (fun _ h => h) (fun b hb' => hk b (h.foot b hb').1), fun b hb' => ?_, hb⟩
  · obtain ⟨h1, h2⟩ := ownsRow_keep (w' := w') h.own (fun g hg => hk g (owns_ge h.own g hg))
    refine ⟨h1, ?_⟩
    rcases h2 with h2 | ⟨g, cap, cur, e, h3, h4⟩
    · exact .inl h2
    · exact .inr ⟨g, cap, cur, e, by omega, h4⟩
  · have hf := h.foot b hb'
    exact ⟨by omega, by omega, hf.2.2⟩
theorem nodeval_one {l : Bool} {a : List UInt8} {av : Option Addr} {n c : Nat} : (Value.bool l).oneCell' = true ∧ (strV a).oneCell' = true ∧ (Value.slice av n c).oneCell' = true := ⟨rfl, rfl, rfl⟩
set_option maxRecDepth 100000 in
set_option maxHeartbeats 4000000 in
theorem copy_any : ∀ (m : Nat) (t : T), SizeOf.sizeOf t ≤ m → Few t → ∀ (w : World) (v0 v1 v2 : Value), NodeAt w t v0 v1 v2 →
    Calls Tryd.prog 18 #[.agg #[v0, v1, v2]] w (fun e w' => ∃ a n c p xs, e = .returned (.agg #[v0, v1, .slice a n c]) ∧ CSt w t.kids (.slice a n c) p xs w') := by
  intro m
  induction m with
  | zero => intro t ht; exact absurd ht (by cases t; simp)
  | succ m ih =>
    intro t ht hfew w v0 v1 v2 hn
    obtain ⟨hf1, hf2⟩ := hfew.kids
    obtain ⟨l, at_, ks⟩ := t
    obtain ⟨rfl, rfl, ha, hk, a, c, rfl, hc, hm, hkids⟩ := hn.open
    simp only [T.leaf, T.atom, T.kids] at ha hk hc hkids hf1 hf2 ⊢
    have hsub : ∀ k ∈ ks, SizeOf.sizeOf k ≤ m := fun k hk => by have := kid_size (l := l) (a := at_) hk; omega
    obtain ⟨S, hS⟩ : ∃ S : ByteArray, Value.string S = strV at_ := ⟨⟨at_.toArray⟩, rfl⟩
    rw [← hS]
    obtain ⟨n, hnn⟩ : ∃ n, n = ks.length := ⟨_, rfl⟩
    rw [← hnn] at hk hc hf1 ⊢
    obtain ⟨iN, hiN, hz0, hz1, hz2⟩ := info_parts nodeInfo
    have hbx1 := heap_alloc_new w (.cells #[.bool l, .string S, .slice a n c] 24)
    have hb1 : Below w.heap.size w (w.alloc (.cells #[.bool l, .string S, .slice a n c] 24)) := (Below.refl _ w).alloc (Nat.le_refl _) _
    have hzz1 : (w.alloc (.cells #[.bool l, .string S, .slice a n c] 24)).heap.size = w.heap.size + 1 := by simp
    obtain ⟨w1, hw1⟩ : ∃ w1, w.alloc (.cells #[.bool l, .string S, .slice a n c] 24) = w1 := ⟨_, rfl⟩
    rw [hw1] at hb1 hbx1 hzz1
    obtain ⟨bx, hbx⟩ : ∃ bx, w.heap.size = bx := ⟨_, rfl⟩
    rw [hbx] at hbx1 hzz1
    have hbb2 := heap_alloc_new w1 (.cells #[.bool false, .string ⟨#[]⟩, .slice none 0 0] 24)
    have hb2 : Below w1.heap.size w1 (w1.alloc (.cells #[.bool false, .string ⟨#[]⟩, .slice none 0 0] 24)) := (Below.refl _ w1).alloc (Nat.le_refl _) _
    have hzz2 : (w1.alloc (.cells #[.bool false, .string ⟨#[]⟩, .slice none 0 0] 24)).heap.size = w1.heap.size + 1 := by simp
    obtain ⟨w2, hw2⟩ : ∃ w2, w1.alloc (.cells #[.bool false, .string ⟨#[]⟩, .slice none 0 0] 24) = w2 := ⟨_, rfl⟩
    rw [hw2] at hb2 hbb2 hzz2
    obtain ⟨b, hbe⟩ : ∃ b, w1.heap.size = b := ⟨_, rfl⟩
    rw [hbe] at hbb2 hzz2
    have hne1 : ¬ (bx = b) := by omega
    have hne2 : ¬ (b = bx) := by omega
    have hbx2 : w2.heap[bx]? = some (.cells #[.bool l, .string S, .slice a n c] 24 (0, 0)) := by rw [hb2.block bx (by omega)]; exact hbx1
    have hb12 := hb1.trans (hb2.mono hb1.size)
    have hszs : bx < w2.heap.size ∧ b < w2.heap.size ∧ w.heap.size ≤ w2.heap.size ∧ bx ≤ b := by omega
    have HB12 := Lib.hid hb12; have HBX := Lib.hid hbx2; have HBB := Lib.hid hbb2; have HSUB := Lib.hid hsub; have HIH := Lib.hid ih; have HK := Lib.hid hkids; have HN := Lib.hid hnn; have HF2 := Lib.hid hf2; have HSZ := Lib.hid hszs
    have x2 := cell_of_heap hbx2 2
    clear hb1 hb2 hb12 hbx1 hbx2 hbb2 hzz1 hzz2 hsub ih hkids hnn hf2 hn ht hfew hszs hS
    go_enter Tryd.func18, Tryd.ntmps18
    go_wp2_with fail
    go_loopw [3, 9] (fun x i wr => ∃ (k : Nat) (ts : List T) (p : Nat → Prop) (xs : List Value), i = .int .i64 k ∧ k ≤ n ∧ ts.length ≤ k ∧ Hid (ts = ks.take k) ∧ Hid (CSt w2 ts x p xs wr)) (fun _ i _ => n - (intOf i).toNat)
    case atStart => exact ⟨0, [], _, _, rfl, Nat.zero_le _, Nat.zero_le _, rfl, CSt.start w2⟩
    case round =>
      obtain ⟨k, ts, p, xs, rfl, hkn, htk, hts, hst⟩ := hrel
      obtain ⟨av, cv, rfl⟩ := owns_form hst.out.own
      by_cases hlt : k < n
      · obtain ⟨t, ht⟩ : ∃ t, ks[k]? = some t := ⟨_, List.getElem?_eq_getElem (by rw [← HN.out]; exact hlt)⟩
        obtain ⟨bb, o, u0, u1, u2, rfl, d0, d1, d2, hnt⟩ := HK.out k t ht
        have hbr : Below w.heap.size w wr := HB12.out.trans (hst.out.bel.mono HB12.out.size)
        replace d0 := below_keeps hbr _ _ d0
        replace d1 := below_keeps hbr _ _ d1
        replace d2 := below_keeps hbr _ _ d2
        have hnr := hnt.below hbr
        have htmem := List.mem_of_getElem? ht
        have hts2 : ts ++ [t] = ks.take (k + 1) := by
          obtain ⟨hi, e⟩ := List.getElem?_eq_some_iff.1 ht
          rw [hts.out, List.take_succ_eq_append_getElem hi, e]
        have hC := HIH.out t (HSUB.out t htmem) (HF2.out t htmem)
        obtain ⟨lf, aa, ts2⟩ := t
        obtain ⟨rfl, rfl, ha2, hl2, a2, c2, rfl, _, _, _⟩ := hnt.open
        simp only [T.leaf, T.atom, T.kids] at hC hnr ha2 hl2 hnt hts2 d0 d1 d2
        obtain ⟨n2, hn2⟩ : ∃ n2, n2 = ts2.length := ⟨_, rfl⟩
        rw [← hn2] at hnr
        obtain ⟨S2, hS2⟩ : ∃ S : ByteArray, strV aa = Value.string S := ⟨_, rfl⟩
        rw [hS2] at hnr d1
        rw [← hn2] at d2
        obtain ⟨e0, e1, e2⟩ := box_cells wr (.bool lf) (.string S2) (.slice a2 n2 c2)
        have hb3 : Below wr.heap.size wr (wr.alloc (.cells #[.bool lf, .string S2, .slice a2 n2 c2] 24)) := (Below.refl _ wr).alloc (Nat.le_refl _) _
        obtain ⟨w3, hw3⟩ : ∃ w3, wr.alloc (.cells #[.bool lf, .string S2, .slice a2 n2 c2] 24) = w3 := ⟨_, rfl⟩
        rw [hw3] at hb3 e0 e1 e2
        have hC3 := hC w3 _ _ _ (hnr.below hb3)
        have HC3 := Lib.hid hC3
        have HST3 := Lib.hid (hst.out.keep hb3)
        have HTS2 := Lib.hid hts2; have HLB := Lib.hid (And.intro hl2 ha2); have HS2 := Lib.hid hS2
        clear hC hC3 hnt hnr ht hbr hb3 htmem hts2 hS2 hn2 ha2 hl2 hts
        go_wp2_with fail
        refine HC3.out.mono ?_
        rintro e w5 ⟨a5, n5, c5, p5, xs5, rfl, hst5⟩
        have HST5 := Lib.hid hst5
        have HOWN5 := Lib.hid ((HST3.out.keep hst5.bel).own.alloc (.cells #[.bool lf, .string S2, .slice a5 n5 c5] 24))
        have HSZ5 := Lib.hid (show w2.heap.size ≤ (w5.alloc (.cells #[.bool lf, .string S2, .slice a5 n5 c5] 24)).heap.size from by have h1 := HST3.out.bel.size; have h2 := hst5.bel.size; simp; omega)
        clear hst5
        go_wp2_with (first | (at_builtin; refine wpList_append_srcs rfl (.tmp 13) (.tmp 16) 22 22 rfl w2.heap.size 24 iN (.agg #[.bool false, .string ⟨#[]⟩, .slice none 0 0]) 3 48 Tryd.underlying22 hiN hz0 hz1 hz2 rfl (by decide) _ rfl _ _ HOWN5.out _ rfl _ _ (node_src w5 (.bool lf) (.string S2) (.slice a5 n5 c5) 0 rfl rfl rfl) (by unfold maxLen; omega) (by omega) HSZ5.out ?_; intro a' c' w6 hown hgrow _ hblk; have HNEXT := Lib.hid (CSt.step (l := lf) (a := aa) HST3.out HST5.out HLB.out.1 HLB.out.2 ((Below.refl _ w5).alloc (Nat.le_refl _) (.cells #[.bool lf, .string S2, .slice a5 n5 c5] 24)) (by rw [HS2.out]; exact hown) hgrow hblk); clear hown hgrow hblk) | fail)
        go_roundw
        case rel => exact ⟨k + 1, ts ++ [.mk lf aa ts2], _, _, by go_num, hlt, by simp; omega, HTS2, HNEXT⟩
        case measure => simp [intOf]; omega
      · obtain rfl : k = n := by omega
        have hts3 : ts = ks := by rw [hts.out, List.take_of_length_le (by rw [← HN.out]; exact Nat.le_refl _)]
        subst hts3
        have hbxr : wr.heap[bx]? = some (.cells #[.bool l, .string S, .slice a k c] 24 (0, 0)) := by rw [hst.out.bel.block bx HSZ.out.1]; exact HBX.out
        have hbbr : wr.heap[b]? = some (.cells #[.bool false, .string ⟨#[]⟩, .slice none 0 0] 24 (0, 0)) := by rw [hst.out.bel.block b HSZ.out.2.1]; exact HBB.out
        have y0 := cell_of_heap hbxr 0
        have y1 := cell_of_heap hbxr 1
        have y2 := cell_of_heap hbxr 2
        have yf := frozen_of_heap hbxr
        have b0 := cell_of_heap hbbr 0
        have b1 := cell_of_heap hbbr 1
        have b2 := cell_of_heap hbbr 2
        have bf := frozen_of_heap hbbr
        have hfin : ∀ z0 z1 z2 z3, CSt w ts (.slice av ts.length cv) p xs ((((wr.setCell ⟨bx, 2, none⟩ z0).setCell ⟨b, 0, none⟩ z1).setCell ⟨b, 1, none⟩ z2).setCell ⟨b, 2, none⟩ z3) := by
          intro z0 z1 z2 z3
          obtain ⟨s1, s2, s3, s4⟩ := HSZ.out
          have hb := HB12.out.trans (hst.out.bel.mono HB12.out.size)
          refine hst.out.base s3 ((((hb.setCell (by simp; omega) _).setCell (by simp; omega) _).setCell (by simp; omega) _).setCell (by simp; omega) _) (fun g hg => ?_) (by simp [World.setCell])
          rw [Below.heap_setCell _ _ _ _ (by simp; omega), Below.heap_setCell _ _ _ _ (by simp; omega), Below.heap_setCell _ _ _ _ (by simp; omega), Below.heap_setCell _ _ _ _ (by simp; omega)]
        have HFIN := Lib.hid hfin
        clear hfin hbxr hbbr x2 hts
        go_wp2_with fail
        refine bodyPost_ret (by simp [results, Tryd.results18, go_sem, b0, b1, b2]; rfl) rfl ?_
        exact ⟨_, _, _, p, xs, rfl, HFIN.out _ _ _ _⟩
end Go.Proofs.YtnekmmknjhflgaaDoor
