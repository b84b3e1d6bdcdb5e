/- DERIVED. The law ViewOrders, walked. -/
import Derived.Test.YtknokfhmkhdieaaDoorViewRow
import Derived.Test.YtknokfhmkhdieaaDoorViewLaw
import Derived.Deep.DeepCutAuto
namespace Go.Proofs.YtknokfhmkhdieaaDoor
open Go.RowKit
set_option linter.unusedVariables false

theorem small_ok {ms : List Mt} (h : Small ms) : MtOk ms := ⟨fun m hm => by have := h.dir m hm; omega, fun m hm => by have := h.files m hm; omega, fun m hm p hp => by have := (h.file m hm p hp).1; omega⟩
theorem rot_perm (ms : List Mt) (k : Nat) : (ms.drop k ++ ms.take k).Perm ms := by
  have h : (ms.drop k ++ ms.take k).Perm (ms.take k ++ ms.drop k) := List.perm_append_comm
  rwa [List.take_append_drop] at h
theorem below_drew2 {n : Nat} {w w' : World} (h : Below n w w') : Below n w w'.drew := ⟨h.os, h.tape, h.output, h.size, h.block⟩
theorem orders_grow {w2 w' w'' : World} {e : TypeId} {a : Option Addr} {n c m : Nat} {vs : List Value} (ho : w'.ownsRow w2.heap.size e m (.slice a n c) n vs) (hb : Below w2.heap.size w2 w') (hg : w'.grownBy w'' (Value.slice a n c).ownBlock) : Below w2.heap.size w2 w'' :=
  ⟨hg.os.trans hb.os, hg.tape.trans hb.tape, hg.output.trans hb.output, Nat.le_trans hb.size hg.size, fun g hlt => (hg.block g (Nat.lt_of_lt_of_le hlt hb.size) (fun e => by have := owns_ge ho g e.symm; omega)).trans (hb.block g hlt)⟩
/-- What ViewOrders compares. -/
theorem orders_same (ms : List Mt) (k : Nat) : (decide ((buildT ms).1 = 0) = decide ((buildT (ms.drop k ++ ms.take k)).1 = 0)) ∧ (buildT ms).2 = (buildT (ms.drop k ++ ms.take k)).2 := by
  cases h1 : buildT ms with
  | mk x t =>
  cases h2 : buildT (ms.drop k ++ ms.take k) with
  | mk y u =>
  by_cases hx : x = 0
  · subst hx
    have := buildT_perm (rot_perm ms k) h1
    rw [h2] at this
    obtain ⟨rfl, rfl⟩ := Prod.mk.inj this
    exact ⟨rfl, rfl⟩
  · by_cases hy : y = 0
    · subst hy
      have := buildT_perm (rot_perm ms k).symm h2
      rw [h1] at this
      exact absurd (Prod.mk.inj this).1 hx
    · exact ⟨by simp [hx, hy], (buildT_bad h1 hx).trans (buildT_bad h2 hy).symm⟩
set_option maxRecDepth 100000 in
set_option maxHeartbeats 16000000 in
theorem orders_law (w : World) (a : Option Addr) (c : Nat) (ms : List Mt) (at_ : Int) (hr : RdMt w a ms) (hs : Sl a ms.length c) (hcap : ms.length ≤ c) (hcm : c ≤ 4398046511104) (hsz : MtSz ms) :
    Calls Tryd.prog 4 #[.slice a ms.length c, .int .i64 at_] w (fun e w' => e = .returned (.bool true) ∧ Below w.heap.size w w') := by
  obtain ⟨n, hnn⟩ : ∃ n, n = ms.length := ⟨_, rfl⟩
  have hG := fun W (h : Below w.heap.size w W) => great_any W a c ms (hr.below h) hsz
  have hnl : n ≤ 4398046511104 := by rw [hnn]; exact hsz.len
  rw [← hnn] at hcap ⊢
  rw [← hnn] at hG
  have HR := Lib.hid hr; have HS := Lib.hid hs; have HN := Lib.hid hnn; have HG := Lib.hid hG
  clear hr hs hnn hG hsz
  go_enter Tryd.func4, Tryd.ntmps4
  go_wp2_with fail
  refine (alive_any _).mono ?_
  rintro e w1 ⟨rfl, h1⟩
  have H1 := Lib.hid h1; clear h1
  go_wp2_with fail
  refine (HG.out w1 H1.out).mono ?_
  rintro e w2 ⟨b, rfl, hsm, h2⟩
  have H2 := Lib.hid (H1.out.trans (h2.mono H1.out.size)); have HSM := Lib.hid hsm
  clear h2 hsm
  cases b
  · have hsm := HSM.out rfl
    have hn40 : n ≤ 40 := by rw [HN.out]; exact hsm.len
    have HSM2 := Lib.hid hsm
    clear hsm
    by_cases h0 : at_ < 0
    · go_wp2_with fail
      go_ret
      exact ⟨rfl, H2.out⟩
    · by_cases hbig : (n : Int) < at_
      · go_wp2_with fail
        go_ret
        exact ⟨rfl, H2.out⟩
      · obtain ⟨k, rfl⟩ : ∃ k : Nat, at_ = k := ⟨at_.toNat, by omega⟩
        have hkn : k ≤ n := by omega
        have hkc : k ≤ c := by omega
        go_upto_region 5 with fail
        go_cut [5] (fun x wx => ∃ a5 c5, x = .slice a5 n c5 ∧ Hid (RdMt wx a5 (ms.drop k ++ ms.take k)) ∧ n ≤ c5 ∧ c5 ≤ maxLen ∧ Hid (Below w.heap.size w wx))
        case first =>
          obtain ⟨i0, hi, hz0, hz1, hz2⟩ := info_three infoMount
          obtain ⟨vs, hv1, hv2, hv3⟩ := (HR.out.below H2.out).cells
          have hvl : vs.length = n * 2 := by rw [hv1.1, HN.out]
          obtain ⟨W0, hW0⟩ : ∃ W, W = (w2.alloc (.cells #[] 36)).drew := ⟨_, rfl⟩
          have hb0 : Below w2.heap.size w2 W0 := by rw [hW0]; exact below_drew2 ((Below.refl _ _).alloc (Nat.le_refl _) _)
          have hz0' : w2.heap.size < W0.heap.size := by rw [hW0]; show w2.heap.size < (w2.alloc _).heap.size; simp
          have ho0 : W0.ownsRow w2.heap.size 36 2 (.slice (some ⟨w2.heap.size, 0, none⟩) 0 0) 0 [] := by rw [hW0]; exact owns_none2 w2 _
          have hb1 : ∀ W', W0.grownBy W' (some w2.heap.size) → Below w2.heap.size w2 W' := fun W' hg => ⟨hg.os.trans hb0.os, hg.tape.trans hb0.tape, hg.output.trans hb0.output, Nat.le_trans hb0.size hg.size, fun g hlt => (hg.block g (Nat.lt_of_lt_of_le hlt hb0.size) (fun e => by have := Option.some.inj e; omega)).trans (hb0.block g hlt)⟩
          cases a with
          | none =>
            obtain ⟨hn0, rfl⟩ := HS.out.nil rfl
            obtain rfl : n = 0 := HN.out.trans hn0
            obtain rfl : k = 0 := by omega
            obtain rfl : vs = [] := List.eq_nil_of_length_eq_zero hvl
            have hms : ms = [] := List.eq_nil_of_length_eq_zero hn0
            have HMS := Lib.hid hms
            have hs0 : ∀ W, Src Tryd.prog 2 22 (.slice none 0 0) 0 [] W := fun W => Src.ofNil W Tryd.underlying22 0
            have HB0 := Lib.hid hb0; have HB1 := Lib.hid hb1
            have HO0 := Lib.hid ho0; have HS0 := Lib.hid hs0; have HZ0 := Lib.hid (Nat.le_of_lt hz0')
            have HI := Lib.hid (And.intro hi (And.intro hz0 (And.intro hz1 hz2)))
            clear hv1 hv2 hv3 hvl hb0 hb1 ho0 hs0 hn0 hi hz0 hz1 hz2 hz0' hms
            rw [hW0] at HB0 HB1 HO0 HZ0
            clear hW0
            go_region
            go_wp2_with fail
            go_meet
            exact ⟨_, _, rfl, by rw [show ms = [] from HMS.out]; exact (fun h => absurd rfl h), Nat.zero_le _, Nat.zero_le _, H2.out.trans (HB0.out.mono H2.out.size)⟩
          | some x =>
            obtain ⟨y, hy⟩ : ∃ y, y = if c = k then x else x.add (k * 2) := ⟨_, rfl⟩
            have hif : (if c = k then some x else some (x.add (k * 2))) = some y := by rw [hy]; split <;> rfl
            have hs1 : Src Tryd.prog 2 22 (.slice (some y) (n - k) (c - k)) (n - k) (vs.drop (k * 2)) W0 := src_drop hvl hv2 (fun j u hj => by obtain ⟨b, o, e, hc⟩ := hv3 j u hj; exact ⟨b, o, e, below_keeps hb0 _ _ hc⟩) hkn y (fun hlt b o e => by
              obtain rfl := Option.some.inj e
              rw [hy, if_neg (by omega), Addr.add_lit]) _
            have hs2 : ∀ W, Below w2.heap.size w2 W → Src Tryd.prog 2 22 (.slice (some x) k c) k (vs.take (k * 2)) W := fun W hW => src_take hvl hv2 (fun j u hj => by obtain ⟨b, o, e, hc⟩ := hv3 j u hj; exact ⟨b, o, e, below_keeps hW _ _ hc⟩) hkn x rfl _
            have hpart := hv1.part k (by rw [← HN.out]; exact hkn)
            have HPART := Lib.hid hpart
            have HB0 := Lib.hid hb0; have HB1 := Lib.hid hb1
            have HO0 := Lib.hid ho0; have HS1 := Lib.hid hs1; have HS2 := Lib.hid hs2; have HZ0 := Lib.hid (Nat.le_of_lt hz0')
            have HI := Lib.hid (And.intro hi (And.intro hz0 (And.intro hz1 hz2)))
            clear hv1 hv2 hv3 hvl hb0 hb1 ho0 hs1 hs2 hi hz0 hz1 hz2 hz0' hpart hy
            rw [hW0] at HB0 HB1 HO0 HZ0 HS1
            clear hW0
            go_region_law (first | (refine step_append_srcs rfl (.tmp 24) (.tmp 27) 22 22 rfl w2.heap.size 36 i0 _ 2 40 Tryd.underlying22 HI.out.1 HI.out.2.1 HI.out.2.2.1 HI.out.2.2.2 rfl (by decide) _ (by simp [Act.eval]; done) 0 [] HO0.out _ (by simp [Act.eval]; done) _ _ HS1.out (by unfold maxLen; omega) (by omega) HZ0.out ?_; intro a' c' w' hown hgrow _ hblk; simp only [Nat.zero_add, List.nil_append] at hown; have HOWN := Lib.hid hown; have HG1 := Lib.hid (HB1.out _ hgrow); have HZ1 := Lib.hid (Nat.le_trans HZ0.out hgrow.size); clear hown hgrow hblk) | (refine step_append_srcs rfl (.tmp 28) (.tmp 31) 22 22 rfl w2.heap.size 36 i0 _ 2 40 Tryd.underlying22 HI.out.1 HI.out.2.1 HI.out.2.2.1 HI.out.2.2.2 rfl (by decide) _ (by simp [Act.eval]; done) (n - k) _ HOWN.out _ (by simp [Act.eval]; done) _ _ (HS2.out _ HG1.out) (by unfold maxLen; omega) (by omega) HZ1.out ?_; intro a'' c'' w'' hown hgrow _ hblk; have HOWN2 := Lib.hid hown; have HG2 := Lib.hid (orders_grow HOWN.out HG1.out hgrow); clear hown hgrow hblk))
            go_wp2_with fail
            go_meet
            have hnk : n - k + k = n := by omega
            have ho2 := HOWN2.out
            rw [hnk] at ho2
            exact ⟨a'', c'', rfl, (HPART.out.below HG2.out).rd ho2 (by simp [← HN.out]; omega), (owns_cap ho2).1, (owns_cap ho2).2, H2.out.trans (HG2.out.mono H2.out.size)⟩
        obtain ⟨a5, c5, rfl, hr5, hn5, hc5, hbc⟩ := hcut
        have hlen2 : (ms.drop k ++ ms.take k).length = n := by simp [← HN.out]; omega
        obtain ⟨hsame1, hsame2⟩ := orders_same ms k
        have hA := build_any wc a c ms (HR.out.below hbc.out) (by rw [← HN.out]; exact hcap) (by unfold maxLen; omega) (by rw [← HN.out]; omega) (small_ok HSM2.out)
        have hB := fun W (h : Below wc.heap.size wc W) => build_any W a5 c5 (ms.drop k ++ ms.take k) (hr5.out.below h) (by rw [hlen2]; exact hn5) hc5 (by rw [hlen2]; omega) (small_ok ⟨by rw [hlen2]; exact hn40, fun m hm => HSM2.out.dir m ((rot_perm ms k).mem_iff.1 hm), fun m hm => HSM2.out.files m ((rot_perm ms k).mem_iff.1 hm), fun m hm => HSM2.out.file m ((rot_perm ms k).mem_iff.1 hm)⟩)
        cases h1 : buildT ms with
        | mk x t =>
        cases h2 : buildT (ms.drop k ++ ms.take k) with
        | mk y u =>
        rw [h1, h2] at hsame1 hsame2
        dsimp only at hsame1 hsame2
        subst hsame2
        rw [h1, ← HN.out] at hA
        rw [h2, hlen2] at hB
        unfold MakeTo at hA hB
        dsimp only at hA hB
        obtain ⟨nt, hnt⟩ : ∃ nt, nt = t.length := ⟨_, rfl⟩
        rw [← hnt] at hA hB
        have hle : t.length ≤ 1000000 := by
          by_cases hx : x = 0
          · subst hx
            have := (good_len (makeT_good (buildT_iff.1 h1).2.2)).1; omega
          · rw [buildT_bad h1 hx]; exact Nat.zero_le _
        have hnt2 : nt ≤ 1000000 := by omega
        obtain ⟨bb, hb1, hb2⟩ : ∃ bb : Bool, (x == 0) = bb ∧ (y == 0) = bb := ⟨decide (x = 0), rfl, hsame1.symm⟩
        have HA := Lib.hid hA; have HB := Lib.hid hB; have HNT := Lib.hid hnt; have HLE := Lib.hid hle; have HE1 := Lib.hid (And.intro hb1 hb2)
        clear hA hB hnt hle hlen2 hsame1 h1 h2 hr5 HR HS hb1 hb2
        go_wp2_with fail
        refine HA.out.mono ?_
        rintro e w3 ⟨a6, c6, rfl, hrow6, hb3⟩
        obtain ⟨w4, hw4, hb4, hx4, z1, z2⟩ := new_cell w3 (.slice a6 nt c6) 27
        have hb34 := hb3.trans (hb4.mono hb3.size)
        have HB4 := Lib.hid hb34; have HX4 := Lib.hid hx4; have HR6 := Lib.hid (hrow6.below hb4)
        have HBC := hbc
        clear hrow6 hb3 hb4 hx4 z1 z2 hb34 hbc
        go_wp2_with fail
        refine (HB.out w4 HB4.out).mono ?_
        rintro e w5 ⟨a7, c7, rfl, hrow7, hb5⟩
        obtain ⟨w6, hw6, hb6, hx6, z1, z2⟩ := new_cell w5 (.slice a7 nt c7) 27
        have hb56 := hb5.trans (hb6.mono hb5.size)
        have q4 := cell_of_heap ((hb56.block _ (lt_of_heap HX4.out)).trans HX4.out) 0
        have q6 := cell_of_heap hx6 0
        have hsm := same_any w6 a6 a7 c6 c7 t t (HR6.out.below hb56).rd (hrow7.below hb6).rd HLE.out HLE.out
        rw [decide_eq_true rfl, ← HNT.out] at hsm
        have HSA := Lib.hid hsm
        have HB6 := Lib.hid (HBC.out.trans ((HB4.out.trans (hb56.mono HB4.out.size)).mono HBC.out.size))
        clear hrow7 hb5 hb6 hx6 z1 z2 hb56 hsm
        obtain ⟨hb1, hb2⟩ := HE1.out
        cases bb
        all_goals
          go_wp2_with fail
          refine HSA.out.mono ?_
          rintro e w7 ⟨rfl, h7⟩
          have HB7 := Lib.hid (HB6.out.trans (h7.mono HB6.out.size))
          clear h7
          go_wp2_with fail
          go_ret
          exact ⟨rfl, HB7.out⟩
  · go_wp2_with fail
    go_ret
    exact ⟨rfl, H2.out⟩
end Go.Proofs.YtknokfhmkhdieaaDoor
