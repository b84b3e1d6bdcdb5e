/- DERIVED. Texts of this claim, put together: SortMath, SortIns, SortInsW, SortSwap, SortRot, SortSym, SortRotW. -/
import Derived.Test.YtjcimajkjnjdpabGreatDoorMBase
import Derived.Lib.Bytealg
import Derived.Test.YtjcimajkjnjdpabGreatDoorStd
import Derived.BigQuiet
import Derived.Deep.RegionLaw
/- DERIVED. Sorting in place: the order of files by path, swaps of neighbours, the insertion sort's rounds. No program in sight. -/
namespace Go.Proofs.YtjcimajkjnjdpabGreatDoor
open Go
set_option linter.unusedVariables false

theorem cmp_less : ∀ a b : List UInt8, decide (Lib.compareBytes a b < 0) = Op.bytesLess a b
  | [], [] => rfl
  | [], _ :: _ => rfl
  | _ :: _, [] => rfl
  | x :: a, y :: b => by
    have ih := cmp_less a b
    unfold Lib.compareBytes Op.bytesLess
    by_cases h1 : x < y
    · simp [h1]
    · by_cases h2 : y < x
      · have h3 : ¬ x = y := fun e => by subst e; exact absurd h2 h1
        simp [h1, h2, h3]
      · have h3 : x = y := by
          apply Decidable.byContradiction
          intro hne
          rcases UInt8.lt_or_lt_of_ne hne with h | h
          · exact h1 h
          · exact h2 h
        subst h3
        simp [h1, ih]
/-- p stands no later than q. -/
def leF (p q : Pr) : Prop := Op.bytesLess q.1 p.1 = false
theorem leF.refl (p : Pr) : leF p p := less_irrefl p.1
theorem leF.of_less {p q : Pr} (h : Op.bytesLess p.1 q.1 = true) : leF p q := less_asymm _ _ h
theorem leF.trans {p q r : Pr} (h : leF p q) (k : leF q r) : leF p r := by
  unfold leF at *
  cases hc : Op.bytesLess r.1 p.1
  · rfl
  · cases hd : Op.bytesLess q.1 r.1
    · have := less_total _ _ hd k
      rw [this, hc] at h; cases h
    · have := less_trans _ _ _ hd hc
      rw [this] at h; cases h
/-- A part of a list stands in order. -/
def SrtOn (ps : List Pr) (a b : Nat) : Prop := ∀ i j p q, a ≤ i → i < j → j < b → ps[i]? = some p → ps[j]? = some q → leF p q
/-- The same files, and the same ones outside a part. -/
def PermOn (qs ps : List Pr) (a b : Nat) : Prop := qs.Perm ps ∧ ∀ k, k < a ∨ b ≤ k → qs[k]? = ps[k]?
theorem PermOn.refl (ps : List Pr) (a b : Nat) : PermOn ps ps a b := ⟨List.Perm.refl _, fun _ _ => rfl⟩
theorem PermOn.trans {ps qs rs : List Pr} {a b : Nat} (h : PermOn rs qs a b) (k : PermOn qs ps a b) : PermOn rs ps a b := ⟨h.1.trans k.1, fun i hi => (h.2 i hi).trans (k.2 i hi)⟩
theorem PermOn.wide {ps qs : List Pr} {a b a' b' : Nat} (h : PermOn qs ps a b) (h1 : a' ≤ a) (h2 : b ≤ b') : PermOn qs ps a' b' := ⟨h.1, fun i hi => h.2 i (by omega)⟩
def swpF (ps : List Pr) (i j : Nat) (p q : Pr) : List Pr := (ps.set i q).set j p
theorem swpF_length (ps : List Pr) (i j : Nat) (p q : Pr) : (swpF ps i j p q).length = ps.length := by simp [swpF]
theorem swpF_perm {ps : List Pr} {i j : Nat} {p q : Pr} (hi : ps[i]? = some p) (hj : ps[j]? = some q) : (swpF ps i j p q).Perm ps := by
  obtain ⟨h1, rfl⟩ := List.getElem?_eq_some_iff.1 hi
  obtain ⟨h2, rfl⟩ := List.getElem?_eq_some_iff.1 hj
  exact List.set_set_perm h1 h2
theorem swpF_at {ps : List Pr} {i j : Nat} {p q : Pr} (hi : ps[i]? = some p) (hj : ps[j]? = some q) (k : Nat) : (swpF ps i j p q)[k]? = if k = j then some p else if k = i then some q else ps[k]? := by
  obtain ⟨h1, _⟩ := List.getElem?_eq_some_iff.1 hi
  obtain ⟨h2, _⟩ := List.getElem?_eq_some_iff.1 hj
  unfold swpF
  rw [List.getElem?_set]
  by_cases e : j = k
  · subst e; simp [h2]
  · rw [if_neg e, if_neg (fun h => e h.symm), List.getElem?_set]
    by_cases e2 : i = k
    · subst e2; simp [h1]
    · rw [if_neg e2, if_neg (fun h => e2 h.symm)]
theorem swpF_on {ps : List Pr} {i j a b : Nat} {p q : Pr} (hi : ps[i]? = some p) (hj : ps[j]? = some q) (h1 : a ≤ i) (h2 : i < b) (h3 : a ≤ j) (h4 : j < b) : PermOn (swpF ps i j p q) ps a b :=
  ⟨swpF_perm hi hj, fun k hk => by rw [swpF_at hi hj, if_neg (by omega), if_neg (by omega)]⟩
/-- In the insertion sort's inner loop: all but one stands in order, and that one stands ahead of what it was moved past. -/
def InsI (qs : List Pr) (a i j : Nat) : Prop :=
  (∀ x y p q, a ≤ x → x < y → y ≤ i → x ≠ j → y ≠ j → qs[x]? = some p → qs[y]? = some q → leF p q) ∧ (∀ y p q, j < y → y ≤ i → qs[j]? = some p → qs[y]? = some q → leF p q)
theorem InsI.start {qs : List Pr} {a i : Nat} (h : SrtOn qs a i) : InsI qs a i i :=
  ⟨fun x y p q h1 h2 h3 h4 h5 hx hy => h x y p q h1 h2 (by omega) hx hy, fun y p q h1 h2 => by omega⟩
theorem InsI.swap {qs : List Pr} {a i j : Nat} {p q : Pr} (h : InsI qs a i (j + 1)) (haj : a ≤ j) (hji : j + 1 ≤ i) (hp : qs[j + 1]? = some p) (hq : qs[j]? = some q) (hl : Op.bytesLess p.1 q.1 = true) : InsI (swpF qs (j + 1) j p q) a i j := by
  constructor
  · intro x y u v h1 h2 h3 h4 h5 hx hy
    rw [swpF_at hp hq] at hx hy
    rw [if_neg h4] at hx
    rw [if_neg h5] at hy
    by_cases e1 : x = j + 1
    · rw [if_pos e1] at hx
      obtain rfl := Option.some.inj hx
      rw [if_neg (by omega)] at hy
      exact h.1 j y q v haj (by omega) h3 (by omega) (by omega) hq hy
    · rw [if_neg e1] at hx
      by_cases e2 : y = j + 1
      · rw [if_pos e2] at hy
        obtain rfl := Option.some.inj hy
        exact h.1 x j u q h1 (by omega) (by omega) e1 (by omega) hx hq
      · rw [if_neg e2] at hy
        exact h.1 x y u v h1 h2 h3 e1 e2 hx hy
  · intro y u v h1 h2 hx hy
    rw [swpF_at hp hq] at hx hy
    rw [if_pos rfl] at hx
    obtain rfl := Option.some.inj hx
    rw [if_neg (by omega)] at hy
    by_cases e2 : y = j + 1
    · rw [if_pos e2] at hy
      obtain rfl := Option.some.inj hy
      exact leF.of_less hl
    · rw [if_neg e2] at hy
      exact h.2 y p v (by omega) h2 hp hy
theorem InsI.done {qs : List Pr} {a i j : Nat} (h : InsI qs a i j) (hj : j ≤ i) (hl : j = a ∨ ∃ k p q, j = k + 1 ∧ a ≤ k ∧ qs[k]? = some p ∧ qs[j]? = some q ∧ leF p q) : SrtOn qs a (i + 1) := by
  intro x y u v h1 h2 h3 hx hy
  by_cases e1 : x = j
  · subst e1; exact h.2 y u v h2 (by omega) hx hy
  · by_cases e2 : y = j
    · subst e2
      rcases hl with rfl | ⟨k, p, q, rfl, hk, hp, hq, hle⟩
      · omega
      · rw [hq] at hy
        obtain rfl := Option.some.inj hy
        by_cases e3 : x = k
        · subst e3
          rw [hp] at hx
          obtain rfl := Option.some.inj hx
          exact hle
        · exact (h.1 x k u p h1 (by omega) (by omega) (by omega) (by omega) hx hp).trans hle
    · exact h.1 x y u v h1 h2 (by omega) e1 e2 hx hy
end Go.Proofs.YtjcimajkjnjdpabGreatDoor

/- DERIVED. Files in a row, in place: byPath, the insertion sort. -/
namespace Go.Proofs.YtjcimajkjnjdpabGreatDoor
open Go.RowKit
set_option linter.unusedVariables false

/-- A row of files in a block, from its beginning. -/
def FlRow (w : World) (g : Nat) (ps : List Pr) : Prop := ∃ C T, w.heap[g]? = some (.cells C T (0, 0)) ∧ ∀ k p, ps[k]? = some p → C[k * 2]? = some (strV p.1) ∧ C[k * 2 + 1]? = some (strV p.2)
theorem FlRow.keep {w w' : World} {g : Nat} {ps : List Pr} (h : FlRow w g ps) (hk : w'.heap[g]? = w.heap[g]?) : FlRow w' g ps := by
  obtain ⟨C, T, h1, h2⟩ := h
  exact ⟨C, T, hk.trans h1, h2⟩
theorem FlRow.lt {w : World} {g : Nat} {ps : List Pr} (h : FlRow w g ps) : g < w.heap.size := by
  obtain ⟨C, T, h1, _⟩ := h
  exact lt_of_heap h1
theorem FlRow.cell {w : World} {g : Nat} {ps : List Pr} (h : FlRow w g ps) {k : Nat} {p : Pr} (hp : ps[k]? = some p) : w.cell? ⟨g, k * 2, none⟩ = some (strV p.1) ∧ w.cell? ⟨g, k * 2 + 1, none⟩ = some (strV p.2) := by
  obtain ⟨C, T, h1, h2⟩ := h
  exact ⟨(cell_of_heap h1 _).trans (h2 k p hp).1, (cell_of_heap h1 _).trans (h2 k p hp).2⟩
theorem FlRow.frozen {w : World} {g : Nat} {ps : List Pr} (h : FlRow w g ps) (i : Nat) : w.frozen? ⟨g, i, none⟩ = false := by
  obtain ⟨C, T, h1, _⟩ := h
  exact frozen_of_heap h1 i
theorem FlRow.put {w : World} {g : Nat} {ps : List Pr} (h : FlRow w g ps) {k : Nat} (hk : k < ps.length) (q : Pr) : FlRow ((w.setCell ⟨g, k * 2, none⟩ (strV q.1)).setCell ⟨g, k * 2 + 1, none⟩ (strV q.2)) g (ps.set k q) := by
  obtain ⟨C, T, h1, h2⟩ := h
  refine ⟨_, T, heap_setCell_here _ (heap_setCell_here _ h1), fun j p hj => ?_⟩
  obtain ⟨h3, h4⟩ := h2 k _ (List.getElem?_eq_getElem hk)
  have l1 : k * 2 < C.size := (Array.getElem?_eq_some_iff.1 h3).1
  have l2 : k * 2 + 1 < C.size := (Array.getElem?_eq_some_iff.1 h4).1
  rw [List.getElem?_set] at hj
  by_cases e : k = j
  · subst e
    rw [if_pos rfl, if_pos hk] at hj
    obtain rfl := Option.some.inj hj
    constructor
    · rw [Array.getElem?_setIfInBounds_ne (by omega), Array.getElem?_setIfInBounds_self_of_lt l1]
    · rw [Array.getElem?_setIfInBounds_self_of_lt (by simp; omega)]
  · rw [if_neg e] at hj
    obtain ⟨h5, h6⟩ := h2 j p hj
    constructor
    · rw [Array.getElem?_setIfInBounds_ne (by omega), Array.getElem?_setIfInBounds_ne (by omega)]; exact h5
    · rw [Array.getElem?_setIfInBounds_ne (by omega), Array.getElem?_setIfInBounds_ne (by omega)]; exact h6
set_option maxHeartbeats 1000000 in
theorem byPath_any (p q : Pr) (w : World) : Calls Tryz.prog 34 #[.agg #[strV p.1, strV p.2], .agg #[strV q.1, strV q.2]] w (fun e w' => e = .returned (.int .i64 (Lib.compareBytes p.1 q.1)) ∧ Below w.heap.size w w') := by
  have hC := fun W => Tryz.strings_Compare ⟨p.1.toArray⟩ ⟨q.1.toArray⟩ W
  rw [show (⟨p.1.toArray⟩ : ByteArray).data.toList = p.1 from rfl, show (⟨q.1.toArray⟩ : ByteArray).data.toList = q.1 from rfl] at hC
  unfold strV
  obtain ⟨A, hA⟩ : ∃ A : ByteArray, A = ⟨p.1.toArray⟩ := ⟨_, rfl⟩
  obtain ⟨B, hB⟩ : ∃ A : ByteArray, A = ⟨q.1.toArray⟩ := ⟨_, rfl⟩
  obtain ⟨A2, hA2⟩ : ∃ A : ByteArray, A = ⟨p.2.toArray⟩ := ⟨_, rfl⟩
  obtain ⟨B2, hB2⟩ : ∃ A : ByteArray, A = ⟨q.2.toArray⟩ := ⟨_, rfl⟩
  rw [← hA, ← hB] at hC ⊢
  rw [← hA2, ← hB2]
  obtain ⟨z, hz⟩ : ∃ z, z = Lib.compareBytes p.1 q.1 := ⟨_, rfl⟩
  rw [← hz] at hC ⊢
  have HC := Lib.hid hC
  have HB := Lib.hid (((Below.refl w.heap.size w).alloc (Nat.le_refl _) (.cells #[.string A, .string A2] 35)).alloc (by simp) (.cells #[.string B, .string B2] 35))
  clear hC hA hB hA2 hB2 hz
  go_enter Tryz.func34, Tryz.ntmps34
  go_wp2_with fail
  refine (HC.out _).mono ?_
  rintro e w2 ⟨rfl, rfl⟩
  go_wp2_with fail
  go_ret
  exact ⟨rfl, HB.out⟩
end Go.Proofs.YtjcimajkjnjdpabGreatDoor

/- DERIVED. The insertion sort's walk. -/
namespace Go.Proofs.YtjcimajkjnjdpabGreatDoor
open Go.RowKit
set_option linter.unusedVariables false

theorem SrtOn.less {ps : List Pr} {a b b' : Nat} (h : SrtOn ps a b) (hb : b' ≤ b) : SrtOn ps a b' := fun i j p q h1 h2 h3 hp hq => h i j p q h1 h2 (by omega) hp hq
theorem SrtOn.one (ps : List Pr) (a : Nat) : SrtOn ps a (a + 1) := fun i j p q h1 h2 h3 => by omega
theorem InsI.swap' {qs : List Pr} {a i j : Nat} {p q : Pr} (h : InsI qs a i j) (haj : a < j) (hji : j ≤ i) (hp : qs[j]? = some p) (hq : qs[j - 1]? = some q) (hl : Op.bytesLess p.1 q.1 = true) : InsI (swpF qs j (j - 1) p q) a i (j - 1) := by
  obtain ⟨j', rfl⟩ : ∃ j', j = j' + 1 := ⟨j - 1, by omega⟩
  rw [Nat.add_sub_cancel] at hq ⊢
  exact h.swap (by omega) hji hp hq hl
theorem FlRow.drew {w : World} {g : Nat} {ps : List Pr} (h : FlRow w g ps) : FlRow w.drew g ps := h
theorem FlRow.swap {w : World} {g j j' : Nat} {ps : List Pr} {p q : Pr} (h : FlRow w g ps) (hp : ps[j]? = some p) (hq : ps[j']? = some q) :
    FlRow ((((w.setCell ⟨g, j * 2, none⟩ (strV q.1)).setCell ⟨g, j * 2 + 1, none⟩ (strV q.2)).setCell ⟨g, j' * 2, none⟩ (strV p.1)).setCell ⟨g, j' * 2 + 1, none⟩ (strV p.2)) g (swpF ps j j' p q) := by
  obtain ⟨h1, _⟩ := List.getElem?_eq_some_iff.1 hp
  obtain ⟨h2, _⟩ := List.getElem?_eq_some_iff.1 hq
  exact (h.put h1 q).put (by rw [List.length_set]; exact h2) p
set_option maxRecDepth 100000 in
set_option maxHeartbeats 4000000 in
theorem ins_any (g c a b n : Nat) (ps : List Pr) (w : World) (hr : FlRow w g ps) (hn : n = ps.length) (hm : n ≤ 1000000) (hb : b ≤ n) (ha : a ≤ n) :
    Calls Tryz.prog 96 #[.slice (some ⟨g, 0, none⟩) n c, .int .i64 a, .int .i64 b, .func (.func 34) #[] #[]] w (fun e w' => e = .returned (.tuple #[]) ∧ ∃ qs, FlRow w' g qs ∧ PermOn qs ps a b ∧ SrtOn qs a b ∧ Ch [g] w w') := by
  have HR := Lib.hid hr; have HN := Lib.hid hn
  clear hr hn
  go_enter Tryz.func96, Tryz.ntmps96
  go_wp2_with fail
  go_loopw [8] (fun x wr => ∃ (k : Nat) (qs : List Pr), x = .int .i64 k ∧ a + 1 ≤ k ∧ k ≤ n + 1 ∧ Hid (k ≤ b ∨ k = a + 1) ∧ Hid (FlRow wr g qs) ∧ Hid (PermOn qs ps a b) ∧ Hid (SrtOn qs a k) ∧ Hid (Ch [g] w wr)) (fun x _ => b - (intOf x).toNat)
  case atStart => exact ⟨a + 1, ps, by go_num, Nat.le_refl _, by omega, .inr rfl, HR.out, PermOn.refl _ _ _, SrtOn.one _ _, Ch.refl _ _⟩
  case round =>
    obtain ⟨k, qs, rfl, hak, hkn, hkb, hfl, hpm, hso, hch⟩ := hrel
    by_cases hlt : k < b
    · go_wp2_with fail
      go_loopw [9] (fun x wr => ∃ (j : Nat) (rs : List Pr), x = .int .i64 j ∧ a ≤ j ∧ j ≤ k ∧ Hid (FlRow wr g rs) ∧ Hid (PermOn rs ps a b) ∧ Hid (InsI rs a k j) ∧ Hid (Ch [g] w wr)) (fun x _ => (intOf x).toNat)
      case atStart => exact ⟨k, qs, rfl, by omega, Nat.le_refl _, hfl, hpm, InsI.start hso.out, hch⟩
      case round =>
        obtain ⟨j, rs, rfl, haj, hjk, hfl2, hpm2, hin, hch2⟩ := hrel
        rename_i W _
        by_cases hja : a < j
        · have hrl : rs.length = n := by rw [hpm2.out.1.length_eq, ← HN.out]
          obtain ⟨p, hp⟩ : ∃ p, rs[j]? = some p := ⟨_, List.getElem?_eq_getElem (by omega)⟩
          obtain ⟨q, hq⟩ : ∃ q, rs[j - 1]? = some q := ⟨_, List.getElem?_eq_getElem (by omega)⟩
          obtain ⟨ι, F, hF0, hFB, hFG⟩ := below_fam wr
          have hcF : ∀ a v, wr.cell? a = some v → ∀ n, (F n).cell? a = some v := fun a v h n => below_keeps (hFB n) _ _ h
          have p0 := hcF _ _ (hfl2.out.cell hp).1
          have p1 := hcF _ _ (hfl2.out.cell hp).2
          have q0 := hcF _ _ (hfl2.out.cell hq).1
          have q1 := hcF _ _ (hfl2.out.cell hq).2
          obtain ⟨z, hz⟩ : ∃ z, z = Lib.compareBytes p.1 q.1 := ⟨_, rfl⟩
          have hcall : ∀ n, Calls Tryz.prog 34 #[.agg #[strV p.1, strV p.2], .agg #[strV q.1, strV q.2]] (F n) (fun e w' => e = .returned (.int .i64 z) ∧ ∃ m, w' = F m) :=
            calls_fam hFB hFG fun W hW => by rw [hz]; exact byPath_any p q W
          obtain ⟨P1, hP1⟩ : ∃ x : ByteArray, strV p.1 = .string x := ⟨_, rfl⟩
          obtain ⟨P2, hP2⟩ : ∃ x : ByteArray, strV p.2 = .string x := ⟨_, rfl⟩
          obtain ⟨Q1, hQ1⟩ : ∃ x : ByteArray, strV q.1 = .string x := ⟨_, rfl⟩
          obtain ⟨Q2, hQ2⟩ : ∃ x : ByteArray, strV q.2 = .string x := ⟨_, rfl⟩
          rw [hP1] at p0 hcall; rw [hP2] at p1 hcall; rw [hQ1] at q0 hcall; rw [hQ2] at q1 hcall
          have HCALL := Lib.hid hcall; have HF0 := Lib.hid hF0; have HFB := Lib.hid hFB
          have HP := Lib.hid hp; have HQ := Lib.hid hq; have HZ := Lib.hid hz
          have HPV := Lib.hid (And.intro hP1 (And.intro hP2 (And.intro hQ1 hQ2)))
          have hjn : j < n := by omega
          clear hcall hF0 hFB hFG hcF hp hq hz hP1 hP2 hQ1 hQ2 hrl
          go_wp2_with fail
          obtain ⟨n0, hn0⟩ := HF0.out 1
          have hne : Nonempty ι := ⟨n0⟩
          refine wp_region_fam F n0 hn0 (by kernel_rfl) (by kernel_rfl) ?_
          repeat (go_big_quiet_step ((go_at_call 34; exact HCALL.out _)))
          refine wpQuiet_nil ?_
          intro _ hw'
          obtain ⟨m0, hw''⟩ := hw'
          subst hw''
          have hzl := cmp_less p.1 q.1
          rw [← HZ.out] at hzl
          have hB1 := HFB.out m0
          replace p0 := p0 m0; replace p1 := p1 m0; replace q0 := q0 m0; replace q1 := q1 m0
          obtain ⟨W1, hW1⟩ : ∃ W1, W1 = F m0 := ⟨_, rfl⟩
          rw [← hW1] at hB1 p0 p1 q0 q1 ⊢
          have hF1 := hfl2.out.keep (hB1.block g hfl2.out.lt)
          have HF1 := Lib.hid hF1; have HC1 := Lib.hid (hch2.out.trans (Ch.of_below hB1 []) (by simp))
          have fz := hF1.frozen
          clear hB1 hW1 HFB HF0 HCALL hF1
          by_cases hz0 : z < 0
          · have hless : Op.bytesLess p.1 q.1 = true := by rw [← hzl]; simpa using hz0
            have HIN := Lib.hid (InsI.swap' hin.out hja hjk HP.out HQ.out hless)
            have HPM := Lib.hid ((swpF_on HP.out HQ.out (by omega : a ≤ j) (by omega : j < b) (by omega) (by omega)).trans hpm2.out)
            have hsw := HF1.out.swap HP.out HQ.out
            rw [HPV.out.1, HPV.out.2.1, HPV.out.2.2.1, HPV.out.2.2.2] at hsw
            have HSW := Lib.hid hsw
            clear hsw hless hzl
            go_wp2_with fail
            go_big_region
            have HFL := Lib.hid HSW.out.drew
            have HCH := Lib.hid (((((HC1.out.setCell (p := ⟨g, j * 2, none⟩) (.inl (by simp)) (.string Q1)).setCell (p := ⟨g, j * 2 + 1, none⟩) (.inl (by simp)) (.string Q2)).setCell (p := ⟨g, (j - 1) * 2, none⟩) (.inl (by simp)) (.string P1)).setCell (p := ⟨g, (j - 1) * 2 + 1, none⟩) (.inl (by simp)) (.string P2)).drew)
            clear HSW HC1 p0 p1 q0 q1 fz
            go_wp2_with fail
            go_roundw
            case rel => exact ⟨j - 1, _, by rw [show ((j - 1 : Nat) : Int) = (j : Int) - 1 by omega], by omega, by omega, HFL, HPM, HIN, HCH⟩
            case measure => simp [intOf]; omega
          · have hless : leF q p := by unfold leF; rw [← hzl]; simpa using hz0
            have HSO := Lib.hid (InsI.done hin.out hjk (.inr ⟨j - 1, q, p, by omega, by omega, HQ.out, HP.out, hless⟩))
            clear hless hzl p0 p1 q0 q1
            go_wp2_with fail
            go_roundw
            case rel => exact ⟨k + 1, rs, by go_num, by omega, by omega, .inl (by omega), HF1, hpm2, HSO, HC1⟩
            case measure => simp [intOf]; omega
        · obtain rfl : j = a := by omega
          have HSO := Lib.hid (InsI.done hin.out hjk (.inl rfl))
          obtain ⟨ι, F, hF0, hFB, hFG⟩ := below_fam wr
          have HF0 := Lib.hid hF0; have HFB := Lib.hid hFB
          clear hF0 hFB hFG
          go_wp2_with fail
          obtain ⟨n0, hn0⟩ := HF0.out 1
          have hne : Nonempty ι := ⟨n0⟩
          refine wp_region_fam F n0 hn0 (by kernel_rfl) (by kernel_rfl) ?_
          repeat (go_big_quiet_step (fail))
          refine wpQuiet_nil ?_
          intro _ hw'
          obtain ⟨m0, hw''⟩ := hw'
          subst hw''
          have hB1 := HFB.out m0
          have HF1 := Lib.hid (hfl2.out.keep (hB1.block g hfl2.out.lt))
          have HC1 := Lib.hid (hch2.out.trans (Ch.of_below hB1 []) (by simp))
          clear hB1
          go_wp2_with fail
          go_roundw
          case rel => exact ⟨k + 1, rs, by go_num, by omega, by omega, .inl (by omega), HF1, hpm2, HSO, HC1⟩
          case measure => simp [intOf]; omega
    · go_wp2_with fail
      go_end0
      exact ⟨rfl, qs, hfl.out, hpm.out, hso.out.less (by omega), hch.out⟩
end Go.Proofs.YtjcimajkjnjdpabGreatDoor

/- DERIVED. swapRange: two stretches of a row of files, changed for one another. -/
namespace Go.Proofs.YtjcimajkjnjdpabGreatDoor
open Go.RowKit
set_option linter.unusedVariables false

/-- Two stretches of a list, changed for one another. -/
def SwR (qs ps : List Pr) (a b n : Nat) : Prop := qs.Perm ps ∧ ∀ k, qs[k]? = if a ≤ k ∧ k < a + n then ps[k - a + b]? else if b ≤ k ∧ k < b + n then ps[k - b + a]? else ps[k]?
theorem SwR.start (ps : List Pr) (a b : Nat) : SwR ps ps a b 0 := ⟨List.Perm.refl _, fun k => by rw [if_neg (by omega), if_neg (by omega)]⟩
theorem SwR.step {qs ps : List Pr} {a b i : Nat} {p q : Pr} (h : SwR qs ps a b i) (hab : a + i < b) (hp : qs[a + i]? = some p) (hq : qs[b + i]? = some q) : SwR (swpF qs (a + i) (b + i) p q) ps a b (i + 1) := by
  refine ⟨(swpF_perm hp hq).trans h.1, fun k => ?_⟩
  have e1 := h.2 (a + i)
  have e2 := h.2 (b + i)
  rw [if_neg (by omega), if_neg (by omega), hp] at e1
  rw [if_neg (by omega), if_neg (by omega), hq] at e2
  rw [swpF_at hp hq]
  by_cases k1 : k = b + i
  · subst k1
    rw [if_pos rfl, if_neg (by omega), if_pos (by omega), show b + i - b + a = a + i by omega]
    exact e1
  · rw [if_neg k1]
    by_cases k2 : k = a + i
    · subst k2
      rw [if_pos rfl, if_pos (by omega), show a + i - a + b = b + i by omega]
      exact e2
    · rw [if_neg k2, h.2 k]
      by_cases k3 : a ≤ k ∧ k < a + i
      · have d1 : a ≤ k ∧ k < a + (i + 1) := by omega
        rw [if_pos k3, if_pos d1]
      · have d1 : ¬ (a ≤ k ∧ k < a + (i + 1)) := by omega
        rw [if_neg k3, if_neg d1]
        by_cases k4 : b ≤ k ∧ k < b + i
        · have d2 : b ≤ k ∧ k < b + (i + 1) := by omega
          rw [if_pos k4, if_pos d2]
        · have d2 : ¬ (b ≤ k ∧ k < b + (i + 1)) := by omega
          rw [if_neg k4, if_neg d2]
set_option maxRecDepth 100000 in
set_option maxHeartbeats 4000000 in
theorem swr_any (g c a b m n : Nat) (ps : List Pr) (w : World) (hr : FlRow w g ps) (hn : n = ps.length) (hm : n ≤ 1000000) (hab : a + m ≤ b) (hb : b + m ≤ n) :
    Calls Tryz.prog 120 #[.slice (some ⟨g, 0, none⟩) n c, .int .i64 a, .int .i64 b, .int .i64 m, .func (.func 34) #[] #[]] w (fun e w' => e = .returned (.tuple #[]) ∧ ∃ qs, FlRow w' g qs ∧ SwR qs ps a b m ∧ Ch [g] w w') := by
  have HR := Lib.hid hr; have HN := Lib.hid hn
  clear hr hn
  go_enter Tryz.func120, Tryz.ntmps120
  go_wp2_with fail
  go_loopw [10] (fun x wr => ∃ (k : Nat) (qs : List Pr), x = .int .i64 k ∧ k ≤ m ∧ Hid (FlRow wr g qs) ∧ Hid (SwR qs ps a b k) ∧ Hid (Ch [g] w wr)) (fun x _ => m - (intOf x).toNat)
  case atStart => exact ⟨0, ps, rfl, Nat.zero_le _, HR.out, SwR.start _ _ _, Ch.refl _ _⟩
  case round =>
    obtain ⟨k, qs, rfl, hkm, hfl, hsw, hch⟩ := hrel
    by_cases hlt : k < m
    · have hrl : qs.length = n := by rw [hsw.out.1.length_eq, ← HN.out]
      obtain ⟨p, hp⟩ : ∃ p, qs[a + k]? = some p := ⟨_, List.getElem?_eq_getElem (by omega)⟩
      obtain ⟨q, hq⟩ : ∃ q, qs[b + k]? = some q := ⟨_, List.getElem?_eq_getElem (by omega)⟩
      obtain ⟨p0, p1⟩ := hfl.out.cell hp
      obtain ⟨q0, q1⟩ := hfl.out.cell hq
      have fz := hfl.out.frozen
      have hs := hfl.out.swap hp hq
      have HST := Lib.hid (hsw.out.step (by omega) hp hq)
      obtain ⟨P1, hP1⟩ : ∃ x : ByteArray, strV p.1 = .string x := ⟨_, rfl⟩
      obtain ⟨P2, hP2⟩ : ∃ x : ByteArray, strV p.2 = .string x := ⟨_, rfl⟩
      obtain ⟨Q1, hQ1⟩ : ∃ x : ByteArray, strV q.1 = .string x := ⟨_, rfl⟩
      obtain ⟨Q2, hQ2⟩ : ∃ x : ByteArray, strV q.2 = .string x := ⟨_, rfl⟩
      rw [hP1, hP2, hQ1, hQ2] at hs
      rw [hP1] at p0; rw [hP2] at p1; rw [hQ1] at q0; rw [hQ2] at q1
      have HFL := Lib.hid hs.drew
      have HCH := Lib.hid (((((hch.out.setCell (p := ⟨g, (a + k) * 2, none⟩) (.inl (by simp)) (.string Q1)).setCell (p := ⟨g, (a + k) * 2 + 1, none⟩) (.inl (by simp)) (.string Q2)).setCell (p := ⟨g, (b + k) * 2, none⟩) (.inl (by simp)) (.string P1)).setCell (p := ⟨g, (b + k) * 2 + 1, none⟩) (.inl (by simp)) (.string P2)).drew)
      have hak : a + k < n := by omega
      have hbk : b + k < n := by omega
      clear hs hp hq hrl hP1 hP2 hQ1 hQ2
      go_wp2_with fail
      go_big_region
      clear p0 p1 q0 q1 fz
      go_wp2_with fail
      go_roundw
      case rel => exact ⟨k + 1, _, by go_num, hlt, HFL, HST, HCH⟩
      case measure => simp [intOf]; omega
    · obtain rfl : k = m := by omega
      go_wp2_with fail
      go_end0
      exact ⟨rfl, qs, hfl.out, hsw.out, hch.out⟩
end Go.Proofs.YtjcimajkjnjdpabGreatDoor

/- DERIVED. The rotation's plain law: what each of its swaps leaves to be turned. -/
namespace Go.Proofs.YtjcimajkjnjdpabGreatDoor
open Go.RowKit
set_option linter.unusedVariables false

def swI (a b n k : Nat) : Nat := if a ≤ k ∧ k < a + n then k - a + b else if b ≤ k ∧ k < b + n then k - b + a else k
/-- Where, behind a turn of [a, b) around m, what stands at k came from. -/
def rotI (a m b k : Nat) : Nat := if a ≤ k ∧ k < a + (b - m) then k - a + m else if a + (b - m) ≤ k ∧ k < b then k - (b - m) else k
theorem SwR.at {qs ps : List Pr} {a b n : Nat} (h : SwR qs ps a b n) (k : Nat) : qs[k]? = ps[swI a b n k]? := by
  rw [h.2 k]
  unfold swI
  split
  · rfl
  · split <;> rfl
def RotR (qs ps : List Pr) (a m b : Nat) : Prop := qs.Perm ps ∧ ∀ k, qs[k]? = ps[rotI a m b k]?
theorem rot_left {i j m k : Nat} (hj : 1 ≤ j) (hij : j < i) (hi : i ≤ m) : swI (m - i) m j (rotI (m - (i - j)) m (m + j) k) = rotI (m - i) m (m + j) k := by
  unfold swI rotI
  repeat' split
  all_goals omega
theorem rot_right {i j m k : Nat} (hi1 : 1 ≤ i) (hij : i < j) (hi : i ≤ m) : swI (m - i) (m + j - i) i (rotI (m - i) m (m + (j - i)) k) = rotI (m - i) m (m + j) k := by
  unfold swI rotI
  repeat' split
  all_goals omega
theorem rot_same {i m k : Nat} (hi1 : 1 ≤ i) (hi : i ≤ m) : swI (m - i) m i k = rotI (m - i) m (m + i) k := by
  unfold swI rotI
  repeat' split
  all_goals omega
theorem RotR.left {rs qs ps : List Pr} {i j m : Nat} (h : RotR rs qs (m - (i - j)) m (m + j)) (hs : SwR qs ps (m - i) m j) (hj : 1 ≤ j) (hij : j < i) (hi : i ≤ m) : RotR rs ps (m - i) m (m + j) :=
  ⟨h.1.trans hs.1, fun k => by rw [h.2 k, hs.at, rot_left hj hij hi]⟩
theorem RotR.right {rs qs ps : List Pr} {i j m : Nat} (h : RotR rs qs (m - i) m (m + (j - i))) (hs : SwR qs ps (m - i) (m + j - i) i) (hi1 : 1 ≤ i) (hij : i < j) (hi : i ≤ m) : RotR rs ps (m - i) m (m + j) :=
  ⟨h.1.trans hs.1, fun k => by rw [h.2 k, hs.at, rot_right hi1 hij hi]⟩
theorem RotR.same {qs ps : List Pr} {i m : Nat} (hs : SwR qs ps (m - i) m i) (hi1 : 1 ≤ i) (hi : i ≤ m) : RotR qs ps (m - i) m (m + i) :=
  ⟨hs.1, fun k => by rw [hs.at, rot_same hi1 hi]⟩
end Go.Proofs.YtjcimajkjnjdpabGreatDoor

/- DERIVED. The merge in place: its plain law. No program in sight. -/
namespace Go.Proofs.YtjcimajkjnjdpabGreatDoor
open Go.RowKit
set_option linter.unusedVariables false

theorem part_split {α : Type} (ps : List α) (a b : Nat) (hab : a ≤ b) : ps = ps.take a ++ ((ps.drop a).take (b - a) ++ ps.drop b) := by
  have h : ps.drop b = (ps.drop a).drop (b - a) := by rw [List.drop_drop]; congr 1; omega
  rw [h, List.take_append_drop, List.take_append_drop]
theorem part_at {α : Type} (ps : List α) (a b k : Nat) : ((ps.drop a).take (b - a))[k]? = if k < b - a then ps[a + k]? else none := by
  rw [List.getElem?_take]
  split
  · rw [List.getElem?_drop]
  · rfl
theorem PermOn.part {qs ps : List Pr} {a b : Nat} (h : PermOn qs ps a b) (hab : a ≤ b) : ((qs.drop a).take (b - a)).Perm ((ps.drop a).take (b - a)) := by
  have h1 := h.1
  rw [part_split qs a b hab, part_split ps a b hab] at h1
  have e1 : qs.take a = ps.take a := by
    apply List.ext_getElem?
    intro k
    rw [List.getElem?_take, List.getElem?_take]
    split
    · exact h.2 k (.inl (by assumption))
    · rfl
  have e2 : qs.drop b = ps.drop b := by
    apply List.ext_getElem?
    intro k
    rw [List.getElem?_drop, List.getElem?_drop]
    exact h.2 _ (.inr (by omega))
  rw [e1, e2] at h1
  exact (List.perm_append_right_iff _).1 ((List.perm_append_left_iff _).1 h1)
theorem PermOn.mem {qs ps : List Pr} {a b i : Nat} {p : Pr} (h : PermOn qs ps a b) (h1 : a ≤ i) (h2 : i < b) (hp : qs[i]? = some p) : ∃ j, a ≤ j ∧ j < b ∧ ps[j]? = some p := by
  have hm := h.part (by omega)
  have : p ∈ (qs.drop a).take (b - a) := by
    apply List.mem_of_getElem? (i := i - a)
    rw [part_at, if_pos (by omega), show a + (i - a) = i by omega]
    exact hp
  have := hm.mem_iff.1 this
  obtain ⟨j, hj⟩ := List.getElem?_of_mem this
  rw [part_at] at hj
  split at hj
  · exact ⟨a + j, by omega, by omega, hj⟩
  · cases hj
theorem PermOn.length {qs ps : List Pr} {a b : Nat} (h : PermOn qs ps a b) : qs.length = ps.length := h.1.length_eq
/-- Two parts that stand in order, one no later than the other, each put in order by itself. -/
theorem srt_halves {qs rs ts : List Pr} {a m b : Nat} (hx : ∀ i j p q, a ≤ i → i < m → m ≤ j → j < b → qs[i]? = some p → qs[j]? = some q → leF p q)
    (h1 : PermOn rs qs a m) (s1 : SrtOn rs a m) (h2 : PermOn ts rs m b) (s2 : SrtOn ts m b) : SrtOn ts a b := by
  intro i j p q hi hij hj hp hq
  by_cases c1 : j < m
  · rw [h2.2 i (.inl (by omega))] at hp
    rw [h2.2 j (.inl (by omega))] at hq
    exact s1 i j p q hi hij c1 hp hq
  · by_cases c2 : m ≤ i
    · exact s2 i j p q c2 hij hj hp hq
    · rw [h2.2 i (.inl (by omega))] at hp
      obtain ⟨i', a1, a2, hp'⟩ := h1.mem hi (by omega) hp
      obtain ⟨j', b1, b2, hq'⟩ := h2.mem (by omega) hj hq
      rw [h1.2 j' (.inr b1)] at hq'
      exact hx i' j' p q a1 a2 b1 b2 hp' hq'
def leAt (ps : List Pr) (i j : Nat) : Prop := ∀ p q, ps[i]? = some p → ps[j]? = some q → leF p q
theorem leAt.of {ps : List Pr} {i j : Nat} {p q : Pr} (hp : ps[i]? = some p) (hq : ps[j]? = some q) (h : leF p q) : leAt ps i j := by
  intro x y hx hy
  rw [hp] at hx; rw [hq] at hy
  obtain rfl := Option.some.inj hx
  obtain rfl := Option.some.inj hy
  exact h
theorem SrtOn.le {ps : List Pr} {a b i j : Nat} (h : SrtOn ps a b) (h1 : a ≤ i) (h2 : i ≤ j) (h3 : j < b) : leAt ps i j := by
  intro p q hp hq
  by_cases e : i = j
  · subst e; rw [hp] at hq; obtain rfl := Option.some.inj hq; exact leF.refl _
  · exact h i j p q h1 (by omega) h3 hp hq
theorem leAt.trans {ps : List Pr} {i j k : Nat} (h : leAt ps i j) (h2 : leAt ps j k) (hj : j < ps.length) : leAt ps i k := by
  intro p q hp hq
  obtain ⟨r, hr⟩ : ∃ r, ps[j]? = some r := ⟨_, List.getElem?_eq_getElem hj⟩
  exact (h p r hp hr).trans (h2 r q hr hq)
theorem RotR.permOn {qs ps : List Pr} {s m e : Nat} (h : RotR qs ps s m e) (h1 : s ≤ m) (h2 : m ≤ e) : PermOn qs ps s e := ⟨h.1, fun k hk => by
  rw [h.2 k]; unfold rotI; rw [if_neg (by omega), if_neg (by omega)]⟩
theorem RotR.none {ps : List Pr} {s m e : Nat} (h1 : s ≤ m) (h2 : m ≤ e) (h : s = m ∨ m = e) : RotR ps ps s m e := ⟨List.Perm.refl _, fun k => by
  have : rotI s m e k = k := by unfold rotI; repeat' split
                                all_goals omega
  rw [this]⟩
/-- What the turn of a merge leaves: four parts in order, the first two no later than the last two. -/
theorem sym_turn {qs ps : List Pr} {a m b mid s e : Nat} (hq : RotR qs ps s m e) (h1 : SrtOn ps a m) (h2 : SrtOn ps m b) (hb : b ≤ ps.length)
    (ha : a ≤ s) (hsm : s ≤ m) (hme : m ≤ e) (heb : e ≤ b) (hmid : s + e = mid + m) (ham : a ≤ mid) (hmb : mid ≤ b)
    (hlo : s = a ∨ e = b ∨ leAt ps (s - 1) e) (hhi : s = m ∨ e = m ∨ leAt ps (e - 1) s) :
    PermOn qs ps a b ∧ SrtOn qs a s ∧ SrtOn qs s mid ∧ SrtOn qs mid e ∧ SrtOn qs e b ∧ ∀ i j p q, a ≤ i → i < mid → mid ≤ j → j < b → qs[i]? = some p → qs[j]? = some q → leF p q := by
  refine ⟨(hq.permOn hsm hme).wide ha heb, ?_, ?_, ?_, ?_, ?_⟩
  · intro i j p q hi hij hj hp hj'
    rw [hq.2, show rotI s m e i = i by unfold rotI; rw [if_neg (by omega), if_neg (by omega)]] at hp
    rw [hq.2, show rotI s m e j = j by unfold rotI; rw [if_neg (by omega), if_neg (by omega)]] at hj'
    exact h1 i j p q hi hij (by omega) hp hj'
  · intro i j p q hi hij hj hp hj'
    rw [hq.2, show rotI s m e i = i - s + m by unfold rotI; rw [if_pos (by omega)]] at hp
    rw [hq.2, show rotI s m e j = j - s + m by unfold rotI; rw [if_pos (by omega)]] at hj'
    exact h2 _ _ p q (by omega) (by omega) (by omega) hp hj'
  · intro i j p q hi hij hj hp hj'
    rw [hq.2, show rotI s m e i = i - (e - m) by unfold rotI; rw [if_neg (by omega), if_pos (by omega)]] at hp
    rw [hq.2, show rotI s m e j = j - (e - m) by unfold rotI; rw [if_neg (by omega), if_pos (by omega)]] at hj'
    exact h1 _ _ p q (by omega) (by omega) (by omega) hp hj'
  · intro i j p q hi hij hj hp hj'
    rw [hq.2, show rotI s m e i = i by unfold rotI; rw [if_neg (by omega), if_neg (by omega)]] at hp
    rw [hq.2, show rotI s m e j = j by unfold rotI; rw [if_neg (by omega), if_neg (by omega)]] at hj'
    exact h2 i j p q (by omega) hij (by omega) hp hj'
  · intro i j p q hi him hmj hj hp hj'
    rw [hq.2] at hp hj'
    by_cases c1 : i < s
    · rw [show rotI s m e i = i by unfold rotI; rw [if_neg (by omega), if_neg (by omega)]] at hp
      by_cases c2 : j < e
      · rw [show rotI s m e j = j - (e - m) by unfold rotI; rw [if_neg (by omega), if_pos (by omega)]] at hj'
        exact h1 _ _ p q (by omega) (by omega) (by omega) hp hj'
      · rw [show rotI s m e j = j by unfold rotI; rw [if_neg (by omega), if_neg (by omega)]] at hj'
        rcases hlo with h | h | h
        · omega
        · omega
        · exact ((h1.le (i := i) (j := s - 1) hi (by omega) (by omega)).trans (h.trans (h2.le (i := e) (j := j) hme (by omega) hj) (by omega)) (by omega)) p q hp hj'
    · rw [show rotI s m e i = i - s + m by unfold rotI; rw [if_pos (by omega)]] at hp
      by_cases c2 : j < e
      · rw [show rotI s m e j = j - (e - m) by unfold rotI; rw [if_neg (by omega), if_pos (by omega)]] at hj'
        rcases hhi with h | h | h
        · omega
        · omega
        · exact ((h2.le (i := i - s + m) (j := e - 1) (by omega) (by omega) (by omega)).trans (h.trans (h1.le (i := s) (j := j - (e - m)) ha (by omega) (by omega)) (by omega)) (by omega)) p q hp hj'
      · rw [show rotI s m e j = j by unfold rotI; rw [if_neg (by omega), if_neg (by omega)]] at hj'
        exact h2 _ _ p q (by omega) (by omega) hj hp hj'

/-- The file at a, moved up to k. -/
def MvU (qs ps : List Pr) (a k : Nat) : Prop := qs.Perm ps ∧ ∀ x, qs[x]? = if a ≤ x ∧ x < k then ps[x + 1]? else if x = k then ps[a]? else ps[x]?
theorem MvU.start (ps : List Pr) (a : Nat) : MvU ps ps a a := ⟨List.Perm.refl _, fun x => by
  rw [if_neg (by omega)]; split
  · rename_i h; rw [h]
  · rfl⟩
theorem MvU.step {qs ps : List Pr} {a k : Nat} {p q : Pr} (h : MvU qs ps a k) (hak : a ≤ k) (hp : qs[k]? = some p) (hq : qs[k + 1]? = some q) : MvU (swpF qs k (k + 1) p q) ps a (k + 1) := by
  refine ⟨(swpF_perm hp hq).trans h.1, fun x => ?_⟩
  have e1 := h.2 k
  have e2 := h.2 (k + 1)
  rw [if_neg (by omega), if_pos rfl, hp] at e1
  rw [if_neg (by omega), if_neg (by omega), hq] at e2
  rw [swpF_at hp hq]
  by_cases c1 : x = k + 1
  · subst c1; rw [if_pos rfl, if_neg (by omega), if_pos rfl]; exact e1
  · rw [if_neg c1]
    by_cases c2 : x = k
    · subst c2; rw [if_pos rfl, if_pos (by omega)]; exact e2
    · rw [if_neg c2, h.2 x]
      by_cases c3 : a ≤ x ∧ x < k
      · have d : a ≤ x ∧ x < k + 1 := by omega
        rw [if_pos c3, if_pos d]
      · have d : ¬ (a ≤ x ∧ x < k + 1) := by omega
        rw [if_neg c3, if_neg d, if_neg c2, if_neg c1]
theorem MvU.done {qs ps : List Pr} {a i b : Nat} (h : MvU qs ps a (i - 1)) (hs : SrtOn ps (a + 1) b) (hb : b ≤ ps.length) (hai : a + 1 ≤ i) (hib : i ≤ b) (hlo : i = a + 1 ∨ leAt ps (i - 1) a) (hhi : i = b ∨ leAt ps a i) : PermOn qs ps a b ∧ SrtOn qs a b := by
  refine ⟨⟨h.1, fun k hk => by rw [h.2, if_neg (by omega), if_neg (by omega)]⟩, fun x y p q hx hxy hy hp hq => ?_⟩
  rw [h.2] at hp hq
  by_cases c1 : x < i - 1
  · have d : a ≤ x ∧ x < i - 1 := by omega
    rw [if_pos d] at hp
    by_cases c2 : y < i - 1
    · have d : a ≤ y ∧ y < i - 1 := by omega
      rw [if_pos d] at hq
      exact hs _ _ p q (by omega) (by omega) (by omega) hp hq
    · rw [if_neg (by omega)] at hq
      have hla : leAt ps (x + 1) a := by
        rcases hlo with h | h
        · omega
        · exact (hs.le (i := x + 1) (j := i - 1) (by omega) (by omega) (by omega)).trans h (by omega)
      by_cases c3 : y = i - 1
      · rw [if_pos c3] at hq
        exact hla p q hp hq
      · rw [if_neg c3] at hq
        exact hs _ _ p q (by omega) (by omega) hy hp hq
  · rw [if_neg (by omega)] at hp
    rw [if_neg (by omega), if_neg (by omega)] at hq
    by_cases c3 : x = i - 1
    · rw [if_pos c3] at hp
      rcases hhi with h | h
      · omega
      · exact (h.trans (hs.le (i := i) (j := y) (by omega) (by omega) hy) (by omega)) p q hp hq
    · rw [if_neg c3] at hp
      exact hs _ _ p q (by omega) hxy hy hp hq
/-- The file at m, moved down to k. -/
def MvD (qs ps : List Pr) (m k : Nat) : Prop := qs.Perm ps ∧ ∀ x, qs[x]? = if k < x ∧ x ≤ m then ps[x - 1]? else if x = k then ps[m]? else ps[x]?
theorem MvD.start (ps : List Pr) (m : Nat) : MvD ps ps m m := ⟨List.Perm.refl _, fun x => by
  rw [if_neg (by omega)]; split
  · rename_i h; rw [h]
  · rfl⟩
theorem MvD.step {qs ps : List Pr} {m k : Nat} {p q : Pr} (h : MvD qs ps m k) (hk : 0 < k) (hkm : k ≤ m) (hp : qs[k]? = some p) (hq : qs[k - 1]? = some q) : MvD (swpF qs k (k - 1) p q) ps m (k - 1) := by
  refine ⟨(swpF_perm hp hq).trans h.1, fun x => ?_⟩
  have e1 := h.2 k
  have e2 := h.2 (k - 1)
  rw [if_neg (by omega), if_pos rfl, hp] at e1
  rw [if_neg (by omega), if_neg (by omega), hq] at e2
  rw [swpF_at hp hq]
  by_cases c1 : x = k - 1
  · subst c1; rw [if_pos rfl, if_neg (by omega), if_pos rfl]; exact e1
  · rw [if_neg c1]
    by_cases c2 : x = k
    · subst c2; rw [if_pos rfl, if_pos (by omega)]; exact e2
    · rw [if_neg c2, h.2 x]
      by_cases c3 : k < x ∧ x ≤ m
      · have d : k - 1 < x ∧ x ≤ m := by omega
        rw [if_pos c3, if_pos d]
      · have d : ¬ (k - 1 < x ∧ x ≤ m) := by omega
        rw [if_neg c3, if_neg d, if_neg c2, if_neg c1]
theorem MvD.done {qs ps : List Pr} {m i a : Nat} (h : MvD qs ps m i) (hs : SrtOn ps a m) (hb : m < ps.length) (hai : a ≤ i) (him : i ≤ m) (hlo : i = a ∨ leAt ps (i - 1) m) (hhi : i = m ∨ leAt ps m i) : PermOn qs ps a (m + 1) ∧ SrtOn qs a (m + 1) := by
  refine ⟨⟨h.1, fun k hk => by rw [h.2, if_neg (by omega), if_neg (by omega)]⟩, fun x y p q hx hxy hy hp hq => ?_⟩
  rw [h.2] at hp hq
  by_cases c1 : x < i
  · rw [if_neg (by omega), if_neg (by omega)] at hp
    by_cases c2 : y < i
    · rw [if_neg (by omega), if_neg (by omega)] at hq
      exact hs _ _ p q hx hxy (by omega) hp hq
    · by_cases c3 : y = i
      · rw [if_neg (by omega), if_pos c3] at hq
        rcases hlo with h | h
        · omega
        · exact ((hs.le (i := x) (j := i - 1) hx (by omega) (by omega)).trans h (by omega)) p q hp hq
      · have d : i < y ∧ y ≤ m := by omega
        rw [if_pos d] at hq
        exact hs _ _ p q hx (by omega) (by omega) hp hq
  · have d : i < y ∧ y ≤ m := by omega
    rw [if_pos d] at hq
    by_cases c3 : x = i
    · rw [if_neg (by omega), if_pos c3] at hp
      rcases hhi with h | h
      · omega
      · exact (h.trans (hs.le (i := i) (j := y - 1) hai (by omega) (by omega)) (by omega)) p q hp hq
    · have d2 : i < x ∧ x ≤ m := by omega
      rw [if_pos d2] at hp
      exact hs _ _ p q (by omega) (by omega) (by omega) hp hq
end Go.Proofs.YtjcimajkjnjdpabGreatDoor

/- DERIVED. The rotation's walk. -/
namespace Go.Proofs.YtjcimajkjnjdpabGreatDoor
open Go.RowKit
set_option linter.unusedVariables false

def SwTo (g : Nat) (ps : List Pr) (a b m : Nat) (w : World) (e : Ending) (w' : World) : Prop := e = .returned (.tuple #[]) ∧ ∃ qs, FlRow w' g qs ∧ SwR qs ps a b m ∧ Ch [g] w w'
theorem swr_at (g c a b m n : Nat) (A B M : Int) (ps : List Pr) (w : World) (hA : A = a) (hB : B = b) (hM : M = m) (hr : FlRow w g ps) (hn : n = ps.length) (hm : n ≤ 1000000) (hab : a + m ≤ b) (hb : b + m ≤ n) :
    Calls Tryz.prog 120 #[.slice (some ⟨g, 0, none⟩) n c, .int .i64 A, .int .i64 B, .int .i64 M, .func (.func 34) #[] #[]] w (SwTo g ps a b m w) := by
  subst hA; subst hB; subst hM
  exact swr_any g c a b m n ps w hr hn hm hab hb
def RotTo (g : Nat) (ps : List Pr) (a m b : Nat) (w : World) (e : Ending) (w' : World) : Prop := e = .returned (.tuple #[]) ∧ ∃ qs, FlRow w' g qs ∧ RotR qs ps a m b ∧ Ch [g] w w'
set_option maxRecDepth 100000 in
set_option maxHeartbeats 4000000 in
theorem rot_any (g c a m b n : Nat) (ps : List Pr) (w : World) (hr : FlRow w g ps) (hn : n = ps.length) (hm : n ≤ 1000000) (ham : a < m) (hmb : m < b) (hb : b ≤ n) :
    Calls Tryz.prog 114 #[.slice (some ⟨g, 0, none⟩) n c, .int .i64 a, .int .i64 m, .int .i64 b, .func (.func 34) #[] #[]] w (RotTo g ps a m b w) := by
  have HR := Lib.hid hr; have HN := Lib.hid hn
  clear hr hn
  go_enter Tryz.func114, Tryz.ntmps114
  go_wp2_with fail
  go_loopw [10, 11] (fun x y wr => ∃ (i j : Nat) (qs : List Pr), x = .int .i64 i ∧ y = .int .i64 j ∧ 1 ≤ i ∧ 1 ≤ j ∧ a + i ≤ m ∧ m + j ≤ b ∧ Hid (FlRow wr g qs) ∧ Hid (n = qs.length) ∧ Hid (∀ rs, RotR rs qs (m - i) m (m + j) → RotR rs ps a m b) ∧ Hid (Ch [g] w wr)) (fun x y _ => (intOf x).toNat + (intOf y).toNat)
  case atStart => exact ⟨m - a, b - m, ps, by rw [show ((m - a : Nat) : Int) = (m : Int) - a by omega], by rw [show ((b - m : Nat) : Int) = (b : Int) - m by omega], by omega, by omega, by omega, by omega, HR.out, HN.out, fun rs h => by rw [show m - (m - a) = a by omega, show m + (b - m) = b by omega] at h; exact h, Ch.refl _ _⟩
  case round =>
    obtain ⟨i, j, qs, rfl, rfl, hi, hj, hai, hjb, hfl, hql, hto, hch⟩ := hrel
    by_cases hij : i = j
    · subst hij
      go_wp2_with fail
      refine (swr_at g c (m - i) m i n _ _ _ qs _ (by omega) rfl rfl hfl.out hql.out hm (by omega) (by omega)).mono ?_
      rintro e w' ⟨rfl, rs, hf2, hs2, hc2⟩
      have HF2 := Lib.hid hf2; have HS2 := Lib.hid hs2; have HC2 := Lib.hid hc2
      clear hf2 hs2 hc2
      go_wp2_with fail
      go_end0
      exact ⟨rfl, rs, HF2.out, hto.out _ (RotR.same HS2.out hi (by omega)), hch.out.trans HC2.out (by simp)⟩
    · have hne : ((i : Int) == (j : Int)) = false := beq_eq_false_iff_ne.2 (by omega)
      have hne2 : ((i : Int) != (j : Int)) = true := by rw [bne, hne]; rfl
      by_cases hlt : j < i
      · go_wp2_with fail
        refine (swr_at g c (m - i) m j n _ _ _ qs _ (by omega) rfl rfl hfl.out hql.out hm (by omega) (by omega)).mono ?_
        rintro e w' ⟨rfl, rs, hf2, hs2, hc2⟩
        have HF2 := Lib.hid hf2; have HS2 := Lib.hid hs2; have HC2 := Lib.hid hc2
        clear hf2 hs2 hc2
        go_wp2_with fail
        go_roundw
        case rel => exact ⟨i - j, j, rs, by rw [show ((i - j : Nat) : Int) = (i : Int) - j by omega], rfl, by omega, hj, by omega, hjb, HF2, by rw [hql.out]; exact HS2.out.1.length_eq.symm, fun us h => hto.out _ (h.left HS2.out hj hlt (by omega)), hch.out.trans HC2.out (by simp)⟩
        case measure => simp [intOf]; omega
      · go_wp2_with fail
        refine (swr_at g c (m - i) (m + j - i) i n _ _ _ qs _ (by omega) (by omega) rfl hfl.out hql.out hm (by omega) (by omega)).mono ?_
        rintro e w' ⟨rfl, rs, hf2, hs2, hc2⟩
        have HF2 := Lib.hid hf2; have HS2 := Lib.hid hs2; have HC2 := Lib.hid hc2
        clear hf2 hs2 hc2
        go_wp2_with fail
        go_roundw
        case rel => exact ⟨i, j - i, rs, rfl, by rw [show ((j - i : Nat) : Int) = (j : Int) - i by omega], hi, by omega, hai, by omega, HF2, by rw [hql.out]; exact HS2.out.1.length_eq.symm, fun us h => hto.out _ (h.right HS2.out hi (by omega) (by omega)), hch.out.trans HC2.out (by simp)⟩
        case measure => simp [intOf]; omega
end Go.Proofs.YtjcimajkjnjdpabGreatDoor
