/- DERIVED. tree.file, walked. -/
import Derived.Test.YtjcimajkjnjdpabGreatDoorTreeByteLaw
import Derived.Test.YtjcimajkjnjdpabGreatDoorTreeEnc
namespace Go.Proofs.YtjcimajkjnjdpabGreatDoor
open Go.RowKit
set_option linter.unusedVariables false
set_option maxRecDepth 100000

theorem kids_two {t : T} (h : t.kids.length = 2) : ∃ k0 k1, t.kids = [k0, k1] := by
  generalize t.kids = ks at h
  match ks, h with
  | [a, b], _ => exact ⟨a, b, rfl⟩
theorem fileD_no {t : T} (h : t.leaf = true ∨ t.kids.length ≠ 2) : fileB t = false ∧ strV (fileD t).1 = .string ⟨#[]⟩ ∧ strV (fileD t).2 = .string ⟨#[]⟩ := by
  have : fileOf t = none := by
    unfold fileOf
    split
    · simp [T.leaf, T.kids] at h
    · rfl
  unfold fileB fileD
  rw [this]
  exact ⟨rfl, rfl, rfl⟩
theorem fileD_two {t k0 k1 : T} (h : t.leaf = false) (hk : t.kids = [k0, k1]) : fileB t = (k0.leaf && k1.leaf) ∧ (k0.leaf = true → k1.leaf = true → (fileD t).1 = k0.atom ∧ (fileD t).2 = k1.atom) ∧ ((k0.leaf && k1.leaf) = false → strV (fileD t).1 = .string ⟨#[]⟩ ∧ strV (fileD t).2 = .string ⟨#[]⟩) := by
  obtain ⟨lf, a, ks⟩ := t
  obtain ⟨l0, a0, ks0⟩ := k0
  obtain ⟨l1, a1, ks1⟩ := k1
  simp only [T.leaf, T.kids] at h hk
  subst h; subst hk
  cases l0 <;> cases l1 <;> simp [fileB, fileD, fileOf, T.leaf, T.atom, strV]
/-- The kids of a node lie in memory. -/
def KidsIn (W : World) (a : Option Addr) (ks : List T) : Prop := ∀ (i : Nat) (k : T), ks[i]? = some k → ∃ (b o : Nat) (u0 u1 u2 : Value), a = some ⟨b, o, none⟩ ∧ W.cell? ⟨b, o + i * 3, none⟩ = some u0 ∧ W.cell? ⟨b, o + i * 3 + 1, none⟩ = some u1 ∧ W.cell? ⟨b, o + i * 3 + 2, none⟩ = some u2 ∧ NodeAt W k u0 u1 u2
theorem KidsIn.below {w W : World} {a : Option Addr} {ks : List T} (h : KidsIn w a ks) (hb : Below w.heap.size w W) : KidsIn W a ks := by
  intro i k hi
  obtain ⟨b, o, u0, u1, u2, h0, h1, h2, h3, h4⟩ := h i k hi
  exact ⟨b, o, u0, u1, u2, h0, below_keeps hb _ _ h1, below_keeps hb _ _ h2, below_keeps hb _ _ h3, h4.below hb⟩
def FileTo (w : World) (t : T) (e : Ending) (w' : World) : Prop := e = .returned (.tuple #[.agg #[strV (fileD t).1, strV (fileD t).2], .bool (fileB t)]) ∧ Below w.heap.size w w'
set_option maxHeartbeats 4000000 in
theorem file_any (w : World) (t : T) (v0 v1 v2 : Value) (hn : NodeAt w t v0 v1 v2) : Calls Tryz.prog 27 #[.agg #[v0, v1, v2]] w (FileTo w t) := by
  obtain ⟨rfl, rfl, ha, hk, a, c, rfl, hlc, hcm, hkids⟩ := hn.open
  obtain ⟨S, hS⟩ : ∃ S : ByteArray, S = ⟨t.atom.toArray⟩ := ⟨_, rfl⟩
  have hsv : strV t.atom = .string S := by rw [hS]; rfl
  rw [hsv]
  obtain ⟨n, hnn⟩ : ∃ n, n = t.kids.length := ⟨_, rfl⟩
  obtain ⟨lf, hlf⟩ : ∃ b, b = t.leaf := ⟨_, rfl⟩
  rw [← hnn, ← hlf]
  obtain ⟨w1, hw1, hb1, hx1, y1, y2⟩ := new_n w #[.bool lf, .string S, .slice a n c] 50
  obtain ⟨w2, hw2, hb2, hx2, y3, y4⟩ := new_two w1 (.string ⟨#[]⟩) (.string ⟨#[]⟩) 35
  obtain ⟨B1, hB1⟩ : ∃ b, w.heap.size = b := ⟨_, rfl⟩
  obtain ⟨B2, hB2⟩ : ∃ b, w1.heap.size = b := ⟨_, rfl⟩
  have hb12 := hb1.trans (hb2.mono hb1.size)
  have hx12 := (hb2.block _ (by omega)).trans hx1
  rw [hB1] at hx12; rw [hB2] at hx2
  have p0 := cell_of_heap hx12 0
  have p1 := cell_of_heap hx12 1
  have p2 := cell_of_heap hx12 2
  have q0 := cell_of_heap hx2 0
  have q1 := cell_of_heap hx2 1
  have qf := frozen_of_heap hx2
  have hne : ¬ (B1 = B2) := by omega
  have hend : ∀ u v, strV (fileD t).1 = u → strV (fileD t).2 = v → ∀ W, Below w.heap.size w W → FileTo w t (.returned (.tuple #[.agg #[u, v], .bool (fileB t)])) W := by
    intro u v hu hv W hW
    subst hu; subst hv
    exact ⟨rfl, hW⟩
  have hset : ∀ u v, Below w.heap.size w ((w2.setCell ⟨B2, 0, none⟩ u).setCell ⟨B2, 1, none⟩ v) := fun u v => (hb12.setCell (p := ⟨B2, 0, none⟩) (by show w.heap.size ≤ B2; omega) u).setCell (p := ⟨B2, 1, none⟩) (by show w.heap.size ≤ B2; omega) v
  have HEND := Lib.hid hend; have HSET := Lib.hid hset; have HNE := Lib.hid hne
  have HK := Lib.hid (KidsIn.below hkids hb12)
  have HN := Lib.hid hnn; have HLF := Lib.hid hlf
  clear hn ha hkids hsv hS hnn hlf hb1 hx1 y1 y2 hb2 hx2 y3 y4 hb12 hx12 hend hset hne hk
  by_cases hl : lf = true
  · subst hl
    have HD := Lib.hid (fileD_no (t := t) (.inl HLF.out.symm))
    go_enter Tryz.func27, Tryz.ntmps27
    go_wp2_with fail
    refine bodyPost_ret (v := .tuple #[.agg #[.string ⟨#[]⟩, .string ⟨#[]⟩], .bool false]) (by simp [results, Tryz.results27, go_sem, q0, q1]) rfl ?_
    rw [← HD.out.1]
    exact HEND.out _ _ HD.out.2.1 HD.out.2.2 _ (HSET.out _ _)
  obtain rfl : lf = false := by simpa using hl
  clear hl
  by_cases h2 : n = 2
  · have hl2 := h2
    rw [HN.out] at hl2
    obtain ⟨k0, k1, hk01⟩ := kids_two hl2
    obtain ⟨hd1, hd2, hd3⟩ := fileD_two HLF.out.symm hk01
    obtain ⟨b, o, u0, u1, u2, rfl, c0, c1, _, hn0⟩ := HK.out 0 k0 (by rw [hk01]; rfl)
    obtain ⟨b', o', u0', u1', u2', e, c3, c4, _, hn1⟩ := HK.out 1 k1 (by rw [hk01]; rfl)
    obtain ⟨rfl, rfl⟩ : b = b' ∧ o = o' := by
      have e2 := Option.some.inj e
      injection e2 with e3 e4
      exact ⟨e3, e4⟩
    obtain ⟨rfl, rfl, _⟩ := hn0.open
    obtain ⟨rfl, rfl, _⟩ := hn1.open
    obtain ⟨P, hP⟩ : ∃ P : ByteArray, strV k0.atom = .string P := ⟨_, rfl⟩
    obtain ⟨Q, hQ⟩ : ∃ Q : ByteArray, strV k1.atom = .string Q := ⟨_, rfl⟩
    rw [hP] at c1; rw [hQ] at c4
    rw [Nat.zero_mul, Nat.add_zero] at c0 c1
    rw [Nat.one_mul] at c3 c4
    subst h2
    obtain ⟨l0, hl0⟩ : ∃ l, l = k0.leaf := ⟨_, rfl⟩
    obtain ⟨l1, hl1⟩ : ∃ l, l = k1.leaf := ⟨_, rfl⟩
    rw [← hl0] at c0 hd1 hd2 hd3; rw [← hl1] at c3 hd1 hd2 hd3
    have HD1 := Lib.hid hd1; have HD2 := Lib.hid hd2; have HD3 := Lib.hid hd3; have HP := Lib.hid hP; have HQ := Lib.hid hQ
    clear hl2 hk01 hd1 hd2 hd3 hn0 hn1 hP hQ hl0 hl1 e
    go_enter Tryz.func27, Tryz.ntmps27
    cases l0
    · go_wp2_with fail
      refine bodyPost_ret (v := .tuple #[.agg #[.string ⟨#[]⟩, .string ⟨#[]⟩], .bool false]) (by simp [results, Tryz.results27, go_sem, q0, q1]) rfl ?_
      rw [show false = fileB t from HD1.out.symm]
      exact HEND.out _ _ (HD3.out (by simp)).1 (HD3.out (by simp)).2 _ (HSET.out _ _)
    · cases l1
      · go_wp2_with fail
        refine bodyPost_ret (v := .tuple #[.agg #[.string ⟨#[]⟩, .string ⟨#[]⟩], .bool false]) (by simp [results, Tryz.results27, go_sem, q0, q1]) rfl ?_
        rw [show false = fileB t from HD1.out.symm]
        exact HEND.out _ _ (HD3.out (by simp)).1 (HD3.out (by simp)).2 _ (HSET.out _ _)
      · go_wp2_with fail
        go_region
        go_wp2_with fail
        refine bodyPost_ret (v := .tuple #[.agg #[.string P, .string Q], .bool true]) (by simp [results, Tryz.results27, go_sem, q0, q1]) rfl ?_
        rw [show true = fileB t from HD1.out.symm]
        exact HEND.out _ _ (by rw [(HD2.out (by simp) (by simp)).1]; exact HP.out) (by rw [(HD2.out (by simp) (by simp)).2]; exact HQ.out) _ (Below.drewN (HSET.out _ _) _)
  · have HD := Lib.hid (fileD_no (t := t) (.inr (by rw [← HN.out]; exact h2)))
    have hn2 : ((n : Int) != 2) = true := by simp; omega
    clear h2
    go_enter Tryz.func27, Tryz.ntmps27
    go_wp2_with fail
    refine bodyPost_ret (v := .tuple #[.agg #[.string ⟨#[]⟩, .string ⟨#[]⟩], .bool false]) (by simp [results, Tryz.results27, go_sem, q0, q1]) rfl ?_
    rw [← HD.out.1]
    exact HEND.out _ _ HD.out.2.1 HD.out.2.2 _ (HSET.out _ _)
end Go.Proofs.YtjcimajkjnjdpabGreatDoor
