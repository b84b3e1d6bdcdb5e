/- DERIVED. Count and tall: the walks of 'great'. -/
import Derived.Test.YtnekmmknjhflgaaDoorSexpNode
import Derived.Deep.WholeRow
namespace Go.Proofs.YtnekmmknjhflgaaDoor
open Go.RowKit
set_option linter.unusedVariables false

theorem kid_size {l : Bool} {a : List UInt8} {ks : List T} {k : T} (h : k ∈ ks) : SizeOf.sizeOf k < SizeOf.sizeOf (T.mk l a ks) := by
  have := List.sizeOf_lt_of_mem h
  simp; omega
mutual
def countT (left : Int) : T → Int
  | .mk _ a ks => countsT (left - 1 - a.length) ks
def countsT (left : Int) : List T → Int
  | [] => left
  | k :: ks => if 0 ≤ left then countsT (countT left k) ks else left
end
theorem countsT_neg {left : Int} (h : left < 0) (ks : List T) : countsT left ks = left := by
  cases ks with
  | nil => unfold countsT; rfl
  | cons k ks => unfold countsT; rw [if_neg (by omega)]
mutual
theorem countT_le : ∀ (t : T) (left : Int), countT left t ≤ left - 1
  | .mk l a ks, left => by
    unfold countT
    have := countsT_le ks (left - 1 - a.length)
    omega
theorem countsT_le : ∀ (ks : List T) (left : Int), countsT left ks ≤ left
  | [], left => by unfold countsT; omega
  | k :: ks, left => by
    unfold countsT
    split
    · have h1 := countT_le k left
      have h2 := countsT_le ks (countT left k)
      omega
    · omega
end
/-- How far below 0 the count may go. -/
def CountOk (t : T) : Prop := ∀ left : Int, 0 ≤ left → -140737488351234 ≤ countT left t
theorem box_cells (w : World) (v0 v1 v2 : Value) : (w.alloc (.cells #[v0, v1, v2] 24)).cell? ⟨w.heap.size, 0, none⟩ = some v0 ∧ (w.alloc (.cells #[v0, v1, v2] 24)).cell? ⟨w.heap.size, 1, none⟩ = some v1 ∧ (w.alloc (.cells #[v0, v1, v2] 24)).cell? ⟨w.heap.size, 2, none⟩ = some v2 := by
  have h := cell_of_heap (heap_alloc_new w (.cells #[v0, v1, v2] 24))
  exact ⟨by rw [h]; rfl, by rw [h]; rfl, by rw [h]; rfl⟩
theorem count_drop {L : Int} {ks : List T} {k : Nat} {t : T} (h : ks[k]? = some t) (h0 : 0 ≤ L) : countsT L (ks.drop k) = countsT (countT L t) (ks.drop (k + 1)) := by
  obtain ⟨hk, rfl⟩ := List.getElem?_eq_some_iff.1 h
  rw [List.drop_eq_getElem_cons hk]
  conv => lhs; unfold countsT
  rw [if_pos h0]
set_option maxHeartbeats 1000000 in
theorem count_any : ∀ (m : Nat) (t : T), SizeOf.sizeOf t ≤ m → ∀ (w : World) (v0 v1 v2 : Value) (left : Int), NodeAt w t v0 v1 v2 → 0 ≤ left → left ≤ 131072 →
    Calls Tryd.prog 23 #[.agg #[v0, v1, v2], .int .i64 left] w (fun e w' => (e = .returned (.int .i64 (countT left t)) ∧ -140737488351234 ≤ countT left t) ∧ Below w.heap.size w w') := by
  intro m
  induction m with
  | zero => intro t ht; exact absurd ht (by cases t; simp)
  | succ m ih =>
    intro t ht w v0 v1 v2 left hn h0 h1
    obtain ⟨lf, at_, ks⟩ := t
    obtain ⟨rfl, rfl, ha, hk, a, c, rfl, hc, hm, hkids⟩ := hn.open
    simp only [T.leaf, T.atom, T.kids] at ha hk hc hkids ⊢
    have hsub : ∀ k ∈ ks, SizeOf.sizeOf k ≤ m := fun k hk => by have := kid_size (l := lf) (a := at_) hk; omega
    obtain ⟨S, hS⟩ : ∃ S : ByteArray, Value.string S = strV at_ ∧ S.size = at_.length := ⟨⟨at_.toArray⟩, rfl, str_size at_⟩
    obtain ⟨hS1, hS2⟩ := hS
    rw [← hS1]
    have hcT : countT left (.mk lf at_ ks) = countsT (left - 1 - S.size) ks := by unfold countT; rw [hS2]
    rw [hcT]
    have hSz : S.size ≤ 140737488351232 := by omega
    obtain ⟨n, hnn⟩ : ∃ n, n = ks.length := ⟨_, rfl⟩
    rw [← hnn] at hk hc ⊢
    obtain ⟨c0, c1, c2⟩ := box_cells w (.bool lf) (.string S) (.slice a n c)
    obtain ⟨w1, hw1⟩ : ∃ w1, w.alloc (.cells #[.bool lf, .string S, .slice a n c] 24) = w1 := ⟨_, rfl⟩
    have hb1 : Below w.heap.size w w1 := by rw [← hw1]; exact (Below.refl _ w).alloc (Nat.le_refl _) _
    obtain ⟨R, hR⟩ : ∃ R, R = countsT (left - 1 - S.size) ks := ⟨_, rfl⟩
    rw [← hR]
    obtain ⟨L0, hL0⟩ : ∃ L0 : Int, L0 = left - 1 - S.size := ⟨_, rfl⟩
    rw [← hL0] at hR
    have HL0 := Lib.hid hL0
    have hRb : R ≤ L0 := by rw [hR]; exact countsT_le ks L0
    have hLb : -140737488351234 ≤ L0 ∧ L0 ≤ 131072 := by omega
    have HB1 := Lib.hid hb1; have HR := Lib.hid hR; have HK := Lib.hid hkids; have HN := Lib.hid hnn; have HSUB := Lib.hid hsub
    have HC := Lib.hid (And.intro c0 (And.intro c1 c2))
    rw [hw1] at HC c1
    clear hb1 hR hL0 hkids hnn hsub hS1 hS2 hcT hn ha ht c0 c2
    go_enter Tryd.func23, Tryd.ntmps23
    go_wp2_with fail
    go_loopw [1, 5] (fun x i wr => ∃ (k : Nat) (L : Int), x = .int .i64 L ∧ i = .int .i64 k ∧ k ≤ n ∧ L ≤ 131072 ∧ -140737488351234 ≤ L ∧ Hid (countsT L (ks.drop k) = R) ∧ Hid (Below w1.heap.size w1 wr)) (fun _ i _ => n - (intOf i).toNat)
    case atStart => exact ⟨0, _, rfl, rfl, Nat.zero_le _, by omega, by omega, by show countsT _ _ = R; rw [HR.out, HL0.out, List.drop_zero], Below.refl _ w1⟩
    case round =>
      obtain ⟨k, L, rfl, rfl, hk2, hL1, hL2, hcs, hbw⟩ := hrel
      obtain ⟨b0, b1, b2⟩ := HC.out
      replace b2 := below_keeps hbw.out _ _ b2
      clear b0 b1
      by_cases hpos : 0 ≤ L
      · by_cases hlt : k < n
        · obtain ⟨t, ht⟩ : ∃ t, ks[k]? = some t := ⟨_, List.getElem?_eq_getElem (by rw [← HN.out]; exact hlt)⟩
          obtain ⟨b, o, u0, u1, u2, rfl, d0, d1, d2, hnt⟩ := HK.out k t ht
          have hbwr : Below w.heap.size w wr := HB1.out.trans (hbw.out.mono HB1.out.size)
          replace d0 := below_keeps hbwr _ _ d0
          replace d1 := below_keeps hbwr _ _ d1
          replace d2 := below_keeps hbwr _ _ d2
          have hG := ih t (HSUB.out t (List.mem_of_getElem? ht)) wr u0 u1 u2 L (hnt.below hbwr) hpos hL1
          have hle := countT_le t L
          have hst := count_drop ht hpos
          rw [hcs.out] at hst
          obtain ⟨L2, hL2'⟩ : ∃ L2, L2 = countT L t := ⟨_, rfl⟩
          rw [← hL2'] at hG hle hst
          have HG := Lib.hid hG; have HST := Lib.hid hst; have HBW := Lib.hid hbwr
          clear hG hst hnt ht hL2' hbwr
          go_wp2_with fail
          refine HG.out.mono ?_
          rintro e w2 ⟨⟨rfl, h3⟩, h4⟩
          have H4 := Lib.hid (hbw.out.trans (h4.mono hbw.out.size)); clear h4
          go_wp2
          go_roundw
          case rel => exact ⟨k + 1, L2, rfl, by go_num, hlt, by omega, h3, HST.out.symm, H4.out⟩
          case measure => simp [intOf]; omega
        · obtain rfl : k = n := by omega
          have hR2 : L = R := by
            have := hcs.out
            rw [List.drop_of_length_le (by rw [← HN.out]; exact Nat.le_refl _)] at this
            unfold countsT at this; exact this
          subst hR2
          go_wp2
          go_ret
          exact ⟨⟨rfl, hL2⟩, HB1.out.trans (hbw.out.mono HB1.out.size)⟩
      · have hR2 : L = R := by
          have := hcs.out
          rw [countsT_neg (by omega)] at this; exact this
        subst hR2
        have hneg : decide (0 ≤ L) = false := by simpa using hpos
        by_cases hlt : k < n
        · go_wp2
          go_ret
          exact ⟨rfl, HB1.out.trans (hbw.out.mono HB1.out.size)⟩
        · go_wp2
          go_ret
          exact ⟨rfl, HB1.out.trans (hbw.out.mono HB1.out.size)⟩
mutual
def tallT (left : Nat) : T → Bool
  | .mk _ _ ks => left == 0 || tallsT (left - 1) ks
def tallsT (left : Nat) : List T → Bool
  | [] => false
  | k :: ks => tallT left k || tallsT left ks
end
theorem talls_drop {L : Nat} {ks : List T} {k : Nat} {t : T} (h : ks[k]? = some t) : tallsT L (ks.drop k) = (tallT L t || tallsT L (ks.drop (k + 1))) := by
  obtain ⟨hk, rfl⟩ := List.getElem?_eq_some_iff.1 h
  rw [List.drop_eq_getElem_cons hk]
  conv => lhs; unfold tallsT
set_option maxHeartbeats 1000000 in
theorem tall_any : ∀ (left : Nat) (t : T), left ≤ 60 → ∀ (w : World) (v0 v1 v2 : Value), NodeAt w t v0 v1 v2 →
    Calls Tryd.prog 24 #[.agg #[v0, v1, v2], .int .i64 left] w (fun e w' => e = .returned (.bool (tallT left t)) ∧ Below w.heap.size w w') := by
  intro left
  induction left with
  | zero =>
    intro t ht w v0 v1 v2 hn
    obtain ⟨lf, at_, ks⟩ := t
    obtain ⟨rfl, rfl, ha, hk, a, c, rfl, hc, hm, hkids⟩ := hn.open
    have hT : tallT 0 (.mk lf at_ ks) = true := by unfold tallT; rfl
    rw [hT]
    simp only [T.leaf, T.atom, T.kids] at hk hc ⊢
    obtain ⟨S, hS⟩ : ∃ S : ByteArray, Value.string S = strV at_ := ⟨⟨at_.toArray⟩, rfl⟩
    rw [← hS]
    obtain ⟨n, hnn⟩ : ∃ n, n = ks.length := ⟨_, rfl⟩
    rw [← hnn] at hk hc ⊢
    have hb1 : Below w.heap.size w (w.alloc (.cells #[.bool lf, .string S, .slice a n c] 24)) := (Below.refl _ w).alloc (Nat.le_refl _) _
    have HB1 := Lib.hid hb1
    clear hn hkids ha hT hS hnn hb1
    go_enter Tryd.func24, Tryd.ntmps24
    go_wp2
    go_ret
    exact ⟨rfl, HB1.out⟩
  | succ left ih =>
    intro t ht w v0 v1 v2 hn
    obtain ⟨lf, at_, ks⟩ := t
    obtain ⟨rfl, rfl, ha, hk, a, c, rfl, hc, hm, hkids⟩ := hn.open
    have hT : tallT (left + 1) (.mk lf at_ ks) = tallsT left ks := by unfold tallT; rfl
    rw [hT]
    simp only [T.leaf, T.atom, T.kids] at hk hc hkids ⊢
    obtain ⟨S, hS⟩ : ∃ S : ByteArray, Value.string S = strV at_ := ⟨⟨at_.toArray⟩, rfl⟩
    rw [← hS]
    obtain ⟨n, hnn⟩ : ∃ n, n = ks.length := ⟨_, rfl⟩
    rw [← hnn] at hk hc ⊢
    obtain ⟨c0, c1, c2⟩ := box_cells w (.bool lf) (.string S) (.slice a n c)
    obtain ⟨w1, hw1⟩ : ∃ w1, w.alloc (.cells #[.bool lf, .string S, .slice a n c] 24) = w1 := ⟨_, rfl⟩
    have hb1 : Below w.heap.size w w1 := by rw [← hw1]; exact (Below.refl _ w).alloc (Nat.le_refl _) _
    rw [hw1] at c2
    obtain ⟨R, hR⟩ : ∃ R, R = tallsT left ks := ⟨_, rfl⟩
    rw [← hR]
    have HB1 := Lib.hid hb1; have HR := Lib.hid hR; have HK := Lib.hid hkids; have HN := Lib.hid hnn
    obtain ⟨z, hz⟩ : ∃ z : Int, z = ((left + 1 : Nat) : Int) := ⟨_, rfl⟩
    have hzl : (left : Int) = z - 1 := by omega
    have hG := fun t W u0 u1 u2 => ih t (by omega) W u0 u1 u2
    rw [hzl] at hG
    rw [← hz]
    have HG := Lib.hid hG
    have hz0 : (z == 0) = false := by simp; omega
    have hzb : 1 ≤ z ∧ z ≤ 60 := by omega
    clear hz hzl ht
    clear hb1 hR hkids hnn hS hT hn ha c0 c1 hG ih
    go_enter Tryd.func24, Tryd.ntmps24
    go_wp2_with fail
    go_loopw [12] (fun i wr => ∃ k : Nat, i = .int .i64 k ∧ k ≤ n ∧ Hid (tallsT left (ks.drop k) = R) ∧ Hid (Below w1.heap.size w1 wr)) (fun i _ => n - (intOf i).toNat)
    case atStart => exact ⟨0, rfl, Nat.zero_le _, HR.out.symm, Below.refl _ w1⟩
    case round =>
      obtain ⟨k, rfl, hk2, hcs, hbw⟩ := hrel
      by_cases hlt : k < n
      · obtain ⟨t, ht'⟩ : ∃ t, ks[k]? = some t := ⟨_, List.getElem?_eq_getElem (by rw [← HN.out]; exact hlt)⟩
        obtain ⟨b, o, u0, u1, u2, rfl, d0, d1, d2, hnt⟩ := HK.out k t ht'
        have hbwr : Below w.heap.size w wr := HB1.out.trans (hbw.out.mono HB1.out.size)
        replace d0 := below_keeps hbwr _ _ d0
        replace d1 := below_keeps hbwr _ _ d1
        replace d2 := below_keeps hbwr _ _ d2
        have hst := talls_drop (L := left) ht'
        rw [hcs.out] at hst
        have hnr := hnt.below hbwr
        have hGk := fun W (hb : Below wr.heap.size wr W) => HG.out t W u0 u1 u2 (hnr.below hb)
        obtain ⟨e0, e1, _, _, a', c', e2, _⟩ := hnt.open
        obtain ⟨S1, hS1⟩ : ∃ S1 : ByteArray, Value.string S1 = strV t.atom := ⟨⟨t.atom.toArray⟩, rfl⟩
        rw [← hS1] at e1
        obtain ⟨n', hn'⟩ : ∃ n', n' = t.kids.length := ⟨_, rfl⟩
        rw [← hn'] at e2
        obtain ⟨lf', hlf'⟩ : ∃ l, l = t.leaf := ⟨_, rfl⟩
        rw [← hlf'] at e0
        obtain ⟨q, hq⟩ : ∃ q, q = tallT left t := ⟨_, rfl⟩
        rw [← hq] at hst hGk
        have HST := Lib.hid hst; have HGK := Lib.hid hGk
        clear hst hnt ht' hbwr hnr hGk hS1 hn' hlf' hq HK
        subst e0 e1 e2
        go_wp2_with fail
        refine (HGK.out _ ((Below.refl _ wr).alloc (Nat.le_refl _) _)).mono ?_
        rintro e w2 ⟨rfl, h4⟩
        have H4 := Lib.hid (hbw.out.trans ((((Below.refl wr.heap.size wr).alloc (Nat.le_refl _) _).trans (h4.mono (by simp))).mono hbw.out.size)); clear h4
        cases q
        · go_wp2
          go_roundw
          case rel => exact ⟨k + 1, by go_num, hlt, by have := HST.out; rw [Bool.false_or] at this; exact this.symm, H4.out⟩
          case measure => simp [intOf]; omega
        · have hR2 : R = true := by rw [HST.out]; rfl
          subst hR2
          go_wp2
          go_ret
          exact ⟨rfl, HB1.out.trans (H4.out.mono HB1.out.size)⟩
      · obtain rfl : k = n := by omega
        have hR2 : R = false := by
          have := hcs.out
          rw [List.drop_of_length_le (by rw [← HN.out]; exact Nat.le_refl _)] at this
          unfold tallsT at this; exact this.symm
        subst hR2
        go_wp2
        go_ret
        exact ⟨rfl, HB1.out.trans (hbw.out.mono HB1.out.size)⟩
def greatT (t : T) : Bool := decide (countT 131072 t < 0) || tallT 60 t
set_option maxHeartbeats 1000000 in
theorem great_any (t : T) (w : World) (v0 v1 v2 : Value) (hn : NodeAt w t v0 v1 v2) :
    Calls Tryd.prog 10 #[.agg #[v0, v1, v2]] w (fun e w' => e = .returned (.bool (greatT t)) ∧ Below w.heap.size w w') := by
  obtain ⟨w1, hw1⟩ : ∃ w1, w.alloc (.cells #[v0, v1, v2] 24) = w1 := ⟨_, rfl⟩
  have hb1 : Below w.heap.size w w1 := by rw [← hw1]; exact (Below.refl _ w).alloc (Nat.le_refl _) _
  obtain ⟨c0, c1, c2⟩ := box_cells w v0 v1 v2
  have hC := count_any (SizeOf.sizeOf t) t (Nat.le_refl _) w1 v0 v1 v2 131072 (hn.below hb1) (by omega) (by omega)
  have hT := fun W (hb : Below w.heap.size w W) => tall_any 60 t (Nat.le_refl _) W v0 v1 v2 (hn.below hb)
  have hg : greatT t = (decide (countT 131072 t < 0) || tallT 60 t) := rfl
  obtain ⟨z, hz⟩ : ∃ z, z = countT 131072 t := ⟨_, rfl⟩
  obtain ⟨q, hq⟩ : ∃ q, q = tallT 60 t := ⟨_, rfl⟩
  obtain ⟨R, hR⟩ : ∃ q, q = greatT t := ⟨_, rfl⟩
  rw [← hz, ← hq, ← hR] at hg
  rw [← hR]
  rw [← hz] at hC
  rw [← hq] at hT
  obtain ⟨e0, e1, _, _, a', c', e2, _⟩ := hn.open
  obtain ⟨S1, hS1⟩ : ∃ S1 : ByteArray, Value.string S1 = strV t.atom := ⟨⟨t.atom.toArray⟩, rfl⟩
  rw [← hS1] at e1
  obtain ⟨n', hn'⟩ : ∃ n', n' = t.kids.length := ⟨_, rfl⟩
  rw [← hn'] at e2
  obtain ⟨lf', hlf'⟩ : ∃ l, l = t.leaf := ⟨_, rfl⟩
  rw [← hlf'] at e0
  subst e0 e1 e2
  have HC := Lib.hid hC; have HT := Lib.hid hT; have HB1 := Lib.hid hb1; have HG := Lib.hid hg
  rw [hw1] at c0 c1 c2
  have HC0 := Lib.hid (And.intro c0 (And.intro c1 c2))
  clear hC hT hb1 hg hz hq hR hS1 hn' hlf' hn c0 c1 c2
  go_enter Tryd.func10, Tryd.ntmps10
  obtain ⟨c0, c1, c2⟩ := HC0.out
  go_wp2_with fail
  refine HC.out.mono ?_
  rintro e w2 ⟨⟨rfl, h3⟩, h4⟩
  replace c0 := below_keeps h4 _ _ c0
  replace c1 := below_keeps h4 _ _ c1
  replace c2 := below_keeps h4 _ _ c2
  have H4 := Lib.hid (HB1.out.trans (h4.mono HB1.out.size)); clear h4
  by_cases hneg : z < 0
  · have hR2 : R = true := by rw [HG.out]; simp [hneg]
    subst hR2
    go_wp2
    go_ret
    exact ⟨rfl, H4.out⟩
  · have hR2 : R = q := by rw [HG.out]; simp [hneg]
    subst hR2
    have hd : decide (z < 0) = false := by simpa using hneg
    go_wp2_with fail
    refine (HT.out w2 H4.out).mono ?_
    rintro e w3 ⟨rfl, h5⟩
    have H5 := Lib.hid (H4.out.trans (h5.mono H4.out.size)); clear h5
    cases R
    · go_wp2
      go_ret
      exact ⟨rfl, H5.out⟩
    · go_wp2
      go_ret
      exact ⟨rfl, H5.out⟩
end Go.Proofs.YtnekmmknjhflgaaDoor
