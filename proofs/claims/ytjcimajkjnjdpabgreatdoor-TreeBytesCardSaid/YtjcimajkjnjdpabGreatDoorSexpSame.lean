/- DERIVED. Same. -/
import Derived.Test.YtjcimajkjnjdpabGreatDoorSexpRDec
namespace Go.Proofs.YtjcimajkjnjdpabGreatDoor
open Go.RowKit
set_option linter.unusedVariables false

mutual
def sameT : T → T → Bool
  | .mk l a ks, .mk l' a' ks' => l == l' && (a == a' && (ks.length == ks'.length && samesT ks ks'))
def samesT : List T → List T → Bool
  | k :: ks, k' :: ks' => sameT k k' && samesT ks ks'
  | [], _ => true
  | _ :: _, [] => true
end
mutual
theorem sameT_iff : ∀ (t u : T), sameT t u = true ↔ t = u
  | .mk l a ks, .mk l' a' ks' => by
    unfold sameT
    simp only [Bool.and_eq_true, beq_iff_eq, T.mk.injEq]
    constructor
    · rintro ⟨rfl, rfl, h1, h2⟩
      exact ⟨rfl, rfl, (samesT_iff ks ks' h1).1 h2⟩
    · rintro ⟨rfl, rfl, rfl⟩
      exact ⟨rfl, rfl, rfl, (samesT_iff ks ks rfl).2 rfl⟩
theorem samesT_iff : ∀ (ks ks' : List T), ks.length = ks'.length → (samesT ks ks' = true ↔ ks = ks')
  | [], [], _ => by unfold samesT; simp
  | k :: ks, k' :: ks', h => by
    unfold samesT
    simp only [Bool.and_eq_true, List.cons.injEq]
    rw [sameT_iff k k', samesT_iff ks ks' (by simpa using h)]
  | [], _ :: _, h => by cases h
  | _ :: _, [], h => by cases h
end
theorem sameT_refl (t : T) : sameT t t = true := (sameT_iff t t).2 rfl
theorem sames_drop {ks ks' : List T} {k : Nat} {t u : T} (h : ks[k]? = some t) (h' : ks'[k]? = some u) : samesT (ks.drop k) (ks'.drop k) = (sameT t u && samesT (ks.drop (k + 1)) (ks'.drop (k + 1))) := by
  obtain ⟨hk, rfl⟩ := List.getElem?_eq_some_iff.1 h
  obtain ⟨hk', rfl⟩ := List.getElem?_eq_some_iff.1 h'
  rw [List.drop_eq_getElem_cons hk, List.drop_eq_getElem_cons hk']
  conv => lhs; unfold samesT
set_option maxRecDepth 100000 in
set_option maxHeartbeats 4000000 in
theorem nsame_any : ∀ (m : Nat) (t u : T), SizeOf.sizeOf t ≤ m → ∀ (w : World) (v0 v1 v2 x0 x1 x2 : Value), NodeAt w t v0 v1 v2 → NodeAt w u x0 x1 x2 →
    Calls Tryz.prog 29 #[.agg #[v0, v1, v2], .agg #[x0, x1, x2]] w (fun e w' => e = .returned (.bool (sameT t u)) ∧ Below w.heap.size w w') := by
  intro m
  induction m with
  | zero => intro t u ht; exact absurd ht (by cases t; simp)
  | succ m ih =>
    intro t u ht w v0 v1 v2 x0 x1 x2 hn hn'
    obtain ⟨l, a, ks⟩ := t
    obtain ⟨l', a', ks'⟩ := u
    obtain ⟨rfl, rfl, ha, hk, ad, c, rfl, hc, hm, hkids⟩ := hn.open
    obtain ⟨rfl, rfl, ha', hk', ad', c', rfl, hc', hm', hkids'⟩ := hn'.open
    simp only [T.leaf, T.atom, T.kids] at ha hk hc hkids ha' hk' hc' hkids' ⊢
    have hsub : ∀ k ∈ ks, SizeOf.sizeOf k ≤ m := fun k hk => by have := kid_size (l := l) (a := a) hk; omega
    obtain ⟨S, hS⟩ : ∃ S : ByteArray, Value.string S = strV a ∧ S.toList = a := ⟨⟨a.toArray⟩, rfl, by rw [Lib.toList_data]⟩
    obtain ⟨S', hS'⟩ : ∃ S : ByteArray, Value.string S = strV a' ∧ S.toList = a' := ⟨⟨a'.toArray⟩, rfl, by rw [Lib.toList_data]⟩
    obtain ⟨hS1, hS2⟩ := hS
    obtain ⟨hS1', hS2'⟩ := hS'
    rw [← hS1, ← hS1']
    obtain ⟨R, hR⟩ : ∃ R, R = sameT (.mk l a ks) (.mk l' a' ks') := ⟨_, rfl⟩
    rw [← hR]
    unfold sameT at hR
    obtain ⟨n, hnn⟩ : ∃ n, n = ks.length := ⟨_, rfl⟩
    obtain ⟨n', hnn'⟩ : ∃ n', n' = ks'.length := ⟨_, rfl⟩
    rw [← hnn] at hk hc ⊢
    rw [← hnn'] at hk' hc' ⊢
    rw [← hnn, ← hnn', ← hS2, ← hS2'] at hR
    obtain ⟨c0, c1, c2⟩ := box_cells w (.bool l) (.string S) (.slice ad n c)
    have hb1 : Below w.heap.size w (w.alloc (.cells #[.bool l, .string S, .slice ad n c] 50)) := (Below.refl _ w).alloc (Nat.le_refl _) _
    obtain ⟨w1, hw1⟩ : ∃ w1, w.alloc (.cells #[.bool l, .string S, .slice ad n c] 50) = w1 := ⟨_, rfl⟩
    rw [hw1] at hb1 c0 c1 c2
    obtain ⟨d0, d1, d2⟩ := box_cells w1 (.bool l') (.string S') (.slice ad' n' c')
    have hb2 : Below w1.heap.size w1 (w1.alloc (.cells #[.bool l', .string S', .slice ad' n' c'] 50)) := (Below.refl _ w1).alloc (Nat.le_refl _) _
    obtain ⟨w2, hw2⟩ : ∃ w2, w1.alloc (.cells #[.bool l', .string S', .slice ad' n' c'] 50) = w2 := ⟨_, rfl⟩
    rw [hw2] at hb2 d0 d1 d2
    replace c0 := below_keeps hb2 _ _ c0
    replace c1 := below_keeps hb2 _ _ c1
    replace c2 := below_keeps hb2 _ _ c2
    have HB := Lib.hid (hb1.trans (hb2.mono hb1.size))
    have HSUB := Lib.hid hsub; have HIH := Lib.hid ih; have HK := Lib.hid hkids; have HK' := Lib.hid hkids'; have HN := Lib.hid hnn; have HN' := Lib.hid hnn'
    clear hb1 hb2 hsub ih hkids hkids' hnn hnn' ht hn hn' hS1 hS1' hS2 hS2' ha ha'
    by_cases hl : l = l'
    · have hl1 : (l != l') = false := by simp [hl]
      have hl3 : (l == l') = true := by simp [hl]
      by_cases hs : S.toList = S'.toList
      · have hs1 : (S.toList != S'.toList) = false := by simp [hs]
        have hs2 : (S.toList == S'.toList) = true := by simp [hs]
        by_cases hln : n = n'
        · have hn1 : ((n : Int) != (n' : Int)) = false := by simp [hln]
          have hR2 : R = samesT ks ks' := by
            rw [hR, hl, hs, hln]; simp
          have HR := Lib.hid hR2
          have hnle : n ≤ n' := by omega
          clear hR hR2 hs hln hl
          go_enter Tryz.func29, Tryz.ntmps29
          go_wp2_with fail
          go_loopw [30] (fun i wr => ∃ k : Nat, i = .int .i64 k ∧ k ≤ n ∧ Hid (R = samesT (ks.drop k) (ks'.drop k)) ∧ Hid (Below w2.heap.size w2 wr)) (fun i _ => n - (intOf i).toNat)
          case atStart => exact ⟨0, rfl, Nat.zero_le _, by rw [List.drop_zero, List.drop_zero]; exact HR, Below.refl _ w2⟩
          case round =>
            obtain ⟨k, rfl, hkn, hrk, hbw⟩ := hrel
            by_cases hlt : k < n
            · obtain ⟨t, ht⟩ : ∃ t, ks[k]? = some t := ⟨_, List.getElem?_eq_getElem (by rw [← HN.out]; exact hlt)⟩
              obtain ⟨u, hu⟩ : ∃ u, ks'[k]? = some u := ⟨_, List.getElem?_eq_getElem (by rw [← HN'.out]; omega)⟩
              obtain ⟨b1, o1, u0, u1, u2, rfl, f0, f1, f2, hnt⟩ := HK.out k t ht
              obtain ⟨b2, o2, y0, y1, y2, rfl, g0, g1, g2, hnu⟩ := HK'.out k u hu
              have hbr : Below w.heap.size w wr := HB.out.trans (hbw.out.mono HB.out.size)
              obtain ⟨ι, F, hF0, hFB, hFG⟩ := below_fam wr
              have hcF : ∀ a v, wr.cell? a = some v → ∀ n, (F n).cell? a = some v := fun a v h n => below_keeps (hFB n) _ _ h
              have hcB : ∀ a v, w.cell? a = some v → wr.cell? a = some v := fun a v h => below_keeps hbr _ _ h
              have hcC : ∀ a v, w2.cell? a = some v → wr.cell? a = some v := fun a v h => below_keeps hbw.out _ _ h
              have e0 := hcF _ _ (hcB _ _ f0); have e1 := hcF _ _ (hcB _ _ f1); have e2 := hcF _ _ (hcB _ _ f2)
              have z0 := hcF _ _ (hcB _ _ g0); have z1 := hcF _ _ (hcB _ _ g1); have z2 := hcF _ _ (hcB _ _ g2)
              have p2 := hcF _ _ (hcC _ _ c2); have q2 := hcF _ _ (hcC _ _ d2)
              obtain ⟨q, hq⟩ : ∃ q, q = sameT t u := ⟨_, rfl⟩
              have hcall : ∀ n, Calls Tryz.prog 29 #[.agg #[u0, u1, u2], .agg #[y0, y1, y2]] (F n) (fun e w' => e = .returned (.bool q) ∧ ∃ m, w' = F m) := by
                refine calls_fam hFB hFG fun W hW => ?_
                rw [hq]
                exact HIH.out t u (HSUB.out t (List.mem_of_getElem? ht)) W u0 u1 u2 y0 y1 y2 (hnt.below (hbr.trans (hW.mono hbr.size))) (hnu.below (hbr.trans (hW.mono hbr.size)))
              have hRn : R = (q && samesT (ks.drop (k + 1)) (ks'.drop (k + 1))) := by rw [hrk.out, sames_drop ht hu, hq]
              have HCALL := Lib.hid hcall; have HRN := Lib.hid hRn; have HF0 := Lib.hid hF0
              have HFB := Lib.hid (fun n => hbw.out.trans ((hFB n).mono hbw.out.size))
              obtain ⟨j0, j1, j2, j3, j4, rfl, rfl, rfl⟩ := hnt.form
              obtain ⟨i0, i1, i2, i3, i4, rfl, rfl, rfl⟩ := hnu.form
              have hkn' : k < n' := by omega
              clear hcall hRn hF0 hFB hFG hcF hcB hcC f0 f1 f2 g0 g1 g2 hq hnt hnu ht hu hbr hrk
              go_wp2_with fail
              obtain ⟨n0, hn0⟩ := HF0.out 1
              have hne : Nonempty ι := ⟨n0⟩
              refine wp_region_fam F n0 hn0 (by kernel_rfl) (by kernel_rfl) ?_
              repeat (go_big_quiet_step ((go_at_call 29; exact HCALL.out _)))
              refine wpQuiet_nil ?_
              intro _ hw'
              obtain ⟨m0, hw''⟩ := hw'
              subst hw''
              cases q
              · have hR0 : R = false := by rw [HRN.out]; rfl
                subst hR0
                go_wp2_with fail
                go_ret
                exact ⟨rfl, HB.out.trans ((HFB.out m0).mono HB.out.size)⟩
              · go_wp2_with fail
                go_roundw
                case rel => exact ⟨k + 1, by go_num, hlt, by have := HRN.out; rw [Bool.true_and] at this; exact this, HFB.out m0⟩
                case measure => simp [intOf]; omega
            · obtain rfl : k = n := by omega
              have hR0 : R = true := by
                rw [hrk.out, List.drop_of_length_le (by rw [← HN.out]; exact Nat.le_refl _)]
                unfold samesT; rfl
              subst hR0
              go_wp2_with fail
              go_ret
              exact ⟨rfl, HB.out.trans (hbw.out.mono HB.out.size)⟩
        · have hn1 : ((n : Int) != (n' : Int)) = true := by simp; omega
          have hR2 : R = false := by rw [hR]; simp [hln]
          subst hR2
          clear hR hs hl
          go_enter Tryz.func29, Tryz.ntmps29
          go_wp2_with fail
          go_ret
          exact ⟨rfl, HB.out⟩
      · have hs1 : (S.toList != S'.toList) = true := by simp [hs]
        have hs2 : (S.toList == S'.toList) = false := by simp [hs]
        have hR2 : R = false := by rw [hR]; simp [hs]
        subst hR2
        clear hR hs hl
        go_enter Tryz.func29, Tryz.ntmps29
        go_wp2_with fail
        go_ret
        exact ⟨rfl, HB.out⟩
    · have hl1 : (l != l') = true := by simp [hl]
      have hl3 : (l == l') = false := by simp [hl]
      have hR2 : R = false := by rw [hR]; simp [hl]
      subst hR2
      clear hR hl
      go_enter Tryz.func29, Tryz.ntmps29
      go_wp2_with fail
      go_ret
      exact ⟨rfl, HB.out⟩
end Go.Proofs.YtjcimajkjnjdpabGreatDoor
