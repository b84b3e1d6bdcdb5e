/- DERIVED. A chain of packages, walked. (Printed by a program.) -/
import Derived.Test.YtnbeklmjinnbaaaSv11
namespace Go.Proofs.Ytnbeklmjinnbaaa
open Go.RowKit Go.Shelf
set_option linter.unusedVariables false
set_option linter.unusedSimpArgs false
set_option maxRecDepth 100000

def abc : ByteArray := ⟨#[97, 98, 99, 100, 101, 102, 103, 104, 105, 106, 107, 108, 109, 110, 111, 112, 113, 114, 115, 116, 117, 118, 119, 120, 121, 122]⟩
theorem abc_cut {i : Nat} (hi : i < 26) : strV (letC i) = .string (abc.extract i (i + 1)) := by
  have h : ∀ i, i < 26 → (abc.extract i (i + 1)).data.toList = letC i := by decide +kernel
  unfold strV
  rw [← h i hi]
/-- The pool's own row, and a stock beside it. -/
def ChAt (w1 wr : World) (B : Nat) (v : Value) (L : List Pk) (st : St) : Prop := ∃ F, StkAtY (fun b => v.ownBlock ≠ some b) wr B F st ∧ (∀ b ∈ F, w1.heap.size ≤ b ∧ v.ownBlock ≠ some b) ∧ wr.ownsRow w1.heap.size 28 4 v L.length (L.flatMap pkL) ∧ Below w1.heap.size w1 wr
variable {w1 wr wr' : World} {B : Nat} {v : Value} {L : List Pk} {st : St}
theorem own_lt {w : World} {base : Nat} {e : TypeId} {size n : Nat} {v : Value} {xs : List Value} (h : w.ownsRow base e size v n xs) : ∀ g, v.ownBlock = some g → base ≤ g ∧ g < w.heap.size := fun g hg => by
  rcases h.2 with ⟨rfl, _⟩ | ⟨g', cap, cur, rfl, hbg, hgb, _⟩
  · cases hg
  · obtain rfl : g' = g := by simpa [Value.ownBlock] using hg
    exact ⟨hbg, lt_of_heap hgb⟩
theorem ChAt.below (h : ChAt w1 wr B v L st) (hb : Below wr.heap.size wr wr') : ChAt w1 wr' B v L st := by
  obtain ⟨F, h1, h2, h3, h4⟩ := h
  exact ⟨F, h1.below hb, h2, ownsRow_keep h3 (fun g hg => hb.block g (own_lt h3 g hg).2), h4.trans (hb.mono h4.size)⟩
theorem ChAt.low (h : ChAt w1 wr B v L st) : Below w1.heap.size w1 wr := by obtain ⟨F, h1, h2, h3, h4⟩ := h; exact h4
theorem ChAt.after {F : List Nat} {st' : St} {c : Int} {e : Ending} (h2 : ∀ b ∈ F, w1.heap.size ≤ b ∧ v.ownBlock ≠ some b) (h3 : wr.ownsRow w1.heap.size 28 4 v L.length (L.flatMap pkL)) (h4 : Below w1.heap.size w1 wr)
    (hs : SeedPY (fun b => v.ownBlock ≠ some b) wr B F st' c e wr') : e = .returned (.int .i64 c) ∧ ChAt w1 wr' B v L st' := by
  obtain ⟨rfl, F', g1, g2, g3⟩ := hs
  have hlt := own_lt h3
  refine ⟨rfl, F', g1, fun b hb => ?_, ownsRow_keep h3 (fun g hg => g2.block g (hlt g hg).2 (fun hm => (h2 g hm).2 hg)), h4.trans (below_of_ch g2 (fun k hk => (h2 k hk).1) h4.size)⟩
  rcases g3 b hb with hb | hb
  · exact h2 b hb
  · exact ⟨Nat.le_trans h4.size hb, fun e => by have := (hlt b e).2; omega⟩
theorem ch_seed (h : ChAt w1 wr B v L st) (n : List UInt8) (k : Int) (hl : n.length ≤ 1000) {T : ByteArray} (hT : strV n = .string T) : Calls Try.prog 7 #[.pointer (some ⟨B, 0, none⟩), .agg #[.string T, .int .i64 k, .int .i64 0, .int .i64 0]] wr (fun e w' => e = .returned (.int .i64 (st.seed (n, k, 0, 0)).2) ∧ ChAt w1 w' B v L (st.seed (n, k, 0, 0)).1) := by
  obtain ⟨F, h1, h2, h3, h4⟩ := h
  have := stkseed_any wr B F st h1 (n, k, 0, 0) (by dsimp only; omega)
  dsimp only at this
  rw [hT] at this
  exact this.mono fun e w' h => ChAt.after h2 h3 h4 h
theorem ch_add {wr0 : World} (h : ChAt w1 wr0 B v L st) (hb0 : Below wr0.heap.size wr0 wr) {Z : Zone} {vs : List Value} {r : Rc} (hr : RecAt Z wr vs r) : Calls Try.prog 9 #[.pointer (some ⟨B, 0, none⟩), .agg vs.toArray] wr (fun e w' => e = .returned (.int .i64 (st.add r).2) ∧ ChAt w1 w' B v L (st.add r).1 ∧ ∀ b, wr0.heap.size ≤ b → b < wr.heap.size → w'.heap[b]? = wr.heap[b]?) := by
  have hB := h.below hb0
  obtain ⟨F, h1, h2, h3, h4⟩ := h
  have hlt := h1.lt
  have h3' := ownsRow_keep h3 (fun g hg => hb0.block g (own_lt h3 g hg).2)
  have h4' := h4.trans (hb0.mono h4.size)
  refine (stkaddY_any wr B F st (h1.below hb0) Z vs r hr (fun b hb e => by have := (own_lt h3' b e).2; omega)).mono fun e w' h => ?_
  obtain ⟨g1, g2⟩ := ChAt.after h2 h3' h4' h
  obtain ⟨-, F', -, g4, -⟩ := h
  exact ⟨g1, g2, fun b hb hl => g4.block b hl (fun hm => by have := hlt b hm; omega)⟩
theorem ChAt.push {m : Nat} {v' : Value} {q : Pk} (h : ChAt w1 wr B v L st) (hm : m = L.length) (ho : wr'.ownsRow w1.heap.size 28 4 v' (m + 1) (L.flatMap pkL ++ pkL q)) (hg : wr.grownBy wr' v.ownBlock) (hk : v'.ownBlock = v.ownBlock ∨ v'.ownBlock = some wr.heap.size) : ChAt w1 wr' B v' (L ++ [q]) st := by
  obtain ⟨F, h1, h2, h3, h4⟩ := h
  have hlt := h1.lt
  have hne : ∀ b, b < wr.heap.size → v.ownBlock ≠ some b → v'.ownBlock ≠ some b := fun b hb h e => by
    rcases hk with hk | hk
    · exact h (by rw [← hk]; exact e)
    · rw [hk] at e; have := Option.some.inj e; omega
  refine ⟨F, h1.keepF hg.size (fun b hb h => hne b hb h) (fun b hb h => hg.block b hb (fun e => ?_)), fun b hb => ⟨(h2 b hb).1, hne b (hlt b hb) (h2 b hb).2⟩, ?_, ?_⟩
  · rcases h with h | h
    · exact (h2 b h).2 e.symm
    · exact h e.symm
  · rw [List.length_append, List.flatMap_append, ← hm]
    simpa using ho
  · exact ⟨hg.os.trans h4.os, hg.tape.trans h4.tape, hg.output.trans h4.output, Nat.le_trans h4.size hg.size, fun k hk => (hg.block k (Nat.lt_of_lt_of_le hk h4.size) (fun e => by have := (own_lt h3 k e.symm).1; omega)).trans (h4.block k hk)⟩
theorem ch_solve (h : ChAt w1 wr B v L st) (hm : L.length ≤ 100000) (n : List UInt8) (k : Int) {T : ByteArray} (hT : strV n = .string T) (left : Int) (hl : left ≤ 2000) :
    Calls Try.prog 10 #[.pointer (some ⟨B, 0, none⟩), .agg #[.string T, .int .i64 k, .int .i64 0, .int .i64 0], v, .int .i64 left] wr (SolveP wr (solveT st (n, k, 0, 0) L left)) := by
  obtain ⟨F, h1, h2, h3, h4⟩ := h
  have := solve_any wr B F st (h1.keepF (Nat.le_refl _) (fun _ _ _ => trivial) (fun _ _ _ => rfl)) (n, k, 0, 0) v _ L (pkgs_ownsC (ownsC_of h3) rfl (by omega)) left hl
  dsimp only at this
  rw [hT] at this
  exact this
theorem owns_oneC {w : World} {base b : Nat} {q : Pk} {S : ByteArray} (hS : strV q.1 = .string S) (hb : base ≤ b) (h : w.heap[b]? = some (.cells #[.string S, .int .i64 q.2.1, .int .i64 q.2.2.1, .int .i64 q.2.2.2] 28 (0, 0))) : w.ownsRow base 28 4 (.slice (some ⟨b, 0, none⟩) 1 1) 1 (pkL q) := by
  refine ⟨by rw [pkL_len], .inr ⟨b, 1, _, rfl, hb, h, Nat.le_refl _, by unfold maxLen; omega, by simp, ?_⟩⟩
  unfold pkL
  rw [hS]
  simp
theorem src_pkC {w : World} {b : Nat} {q : Pk} {S : ByteArray} {t : TypeId} (hS : strV q.1 = .string S) (h : w.heap[b]? = some (.cells #[.string S, .int .i64 q.2.1, .int .i64 q.2.2.1, .int .i64 q.2.2.2] t (0, 0))) : Src Try.prog 4 30 (.slice (some ⟨b, 0, none⟩) 1 1) 1 (pkL q) w :=
  Src.ofSlice _ Try.underlying30 ⟨b, 0, none⟩ 1 1 (pkL q) rfl (fun j u hj => by
    unfold pkL at hj
    rw [hS] at hj
    rw [Addr.add_lit, Nat.zero_add, cell_of_heap h]
    simpa using hj) (pkL_one _)
theorem pool_next (cut k : Nat) : poolC cut (k + 1) = if k = cut then poolC cut k else poolC cut k ++ [pkC k] := by
  unfold poolC
  rw [List.range_succ, List.filter_append, List.map_append]
  by_cases h : k = cut
  · rw [if_pos h]; simp [h]
  · rw [if_neg h]; simp [h]
theorem seed_cc (n : Nat) : (St.empty.seed (n_cc, 1, 0, 0)).1 = stC n 0 := by
  unfold St.seed
  rw [if_neg (by decide), if_neg (by decide), if_neg (by decide)]
  rfl
theorem pool_len (cut k : Nat) : (poolC cut k).length ≤ k + 1 := by
  unfold poolC
  rw [List.length_cons, List.length_map]
  have := List.length_filter_le (fun i => decide (i ≠ cut)) (List.range k)
  rw [List.length_range] at this
  omega
theorem chainShape {w w' : World} {t : Pk} {c : List Pk} {m e0 : Int} {e : Ending} (h : SolveP w ((t, c), m, e0) e w') : ∃ (s : ByteArray) (a : Option Addr) (n k : Nat), n = c.length ∧ strV t.1 = .string s ∧
    e = .returned (.tuple #[.agg #[.string s, .int .i64 t.2.1, .int .i64 t.2.2.1, .int .i64 t.2.2.2, .slice a n k], .int .i64 m, .int .i64 e0]) ∧ ownsC w' w.heap.size 28 4 (.slice a n k) c.length (c.flatMap pkL) ∧ Below w.heap.size w w' := by
  obtain ⟨v, s, a, n, k, rfl, h1, h2, rfl, h3, h4⟩ := h
  exact ⟨s, a, n, k, h1, h2, rfl, h3, h4⟩
theorem chainNone {w w' : World} {m e0 : Int} {e : Ending} (h : SolveP w (ch0, m, e0) e w') : ∃ (s : ByteArray) (a : Option Addr) (k : Nat), e = .returned (.tuple #[.agg #[.string s, .int .i64 0, .int .i64 0, .int .i64 0, .slice a 0 k], .int .i64 m, .int .i64 e0]) ∧ Below w.heap.size w w' := by
  obtain ⟨s, a, n, k, h1, -, h3, -, h5⟩ := chainShape (t := pk0) (c := []) h
  obtain rfl : n = 0 := h1
  exact ⟨s, a, k, h3, h5⟩
theorem chainYes {w w' : World} {N : Nat} {m : Int} {e : Ending} (hN : 1 ≤ N) (h : SolveP w ((ccP, chC N), m, 0) e w') : ∃ (s : ByteArray) (g k : Nat), e = .returned (.tuple #[.agg #[.string s, .int .i64 1, .int .i64 0, .int .i64 0, .slice (some ⟨g, 0, none⟩) N k], .int .i64 m, .int .i64 0]) ∧ N ≤ k ∧ (∀ j u, (pkL (pkC 0))[j]? = some u → w'.cell? ⟨g, j, none⟩ = some u) ∧ Below w.heap.size w w' := by
  obtain ⟨s, a, n, k, h1, -, h3, h4, h5⟩ := chainShape h
  have hl : (chC N).length = N := by unfold chC; simp
  rw [hl] at h1 h4
  subst h1
  have h40 := h4
  rcases h4.2 with ⟨e1, e2⟩ | ⟨g, cap, cur, e1, -, -, hle, -⟩
  · omega
  · obtain ⟨rfl, -, rfl⟩ := Value.slice.inj e1
    refine ⟨s, g, k, h3, hle, fun j u hj => ?_, h5⟩
    have h4j : j < 4 := by have := (List.getElem?_eq_some_iff.1 hj).1; rwa [pkL_len] at this
    have h0 : (chC n)[0]? = some (pkC 0) := by unfold chC; rw [List.getElem?_map, List.getElem?_range (by omega)]; rfl
    have h6 := flat_at pkL_len (chC n) 0 _ h0 j h4j
    rw [Nat.zero_mul, Nat.zero_add] at h6
    exact ownsC_cells h40 rfl j u (h6.trans hj)
set_option maxHeartbeats 32000000 in
theorem chain_any (w : World) (n cut : Int) : Calls Try.prog 3 #[.int .i64 n, .int .i64 cut] w (fun e w' => e = .returned (.bool true) ∧ Below w.heap.size w w') := by
  go_enter Try.func3, Try.ntmps3
  go_wp2_with fail
  refine (alive_any w).mono ?_
  rintro e w1 ⟨rfl, h1⟩
  have HB1 := Lib.hid h1
  clear h1
  by_cases gnl1 : n < 1
  · go_wp2_with fail
    go_ret
    exact ⟨rfl, HB1.out⟩
  by_cases g25ln : 25 < n
  · go_wp2_with fail
    go_ret
    exact ⟨rfl, HB1.out⟩
  by_cases gcutl0 : cut < 0
  · go_wp2_with fail
    go_ret
    exact ⟨rfl, HB1.out⟩
  by_cases g30lcut : 30 < cut
  · go_wp2_with fail
    go_ret
    exact ⟨rfl, HB1.out⟩
  obtain ⟨N, rfl⟩ : ∃ N : Nat, n = (N : Int) := ⟨n.toNat, by omega⟩
  obtain ⟨K, rfl⟩ : ∃ K : Nat, cut = (K : Int) := ⟨cut.toNat, by omega⟩
  have hN1 : 1 ≤ N := by omega
  have hN : N ≤ 25 := by omega
  have hK : K ≤ 30 := by omega
  have HNW := Lib.hid (stknew_any w1)
  go_wp2_with fail
  refine HNW.out.mono ?_
  rintro e w2 ⟨B, F0, rfl, hst, hF0, h2⟩
  have HST := Lib.hid hst; have HF0 := Lib.hid hF0; have HB2 := Lib.hid h2
  clear hst hF0 h2
  go_wp2_with fail
  refine (pkg_any w2 _ _).mono ?_
  rintro e w3 ⟨rfl, h3⟩
  obtain ⟨w4, hw4, hb4, hx4, y1, y2⟩ := any_block w3 #[.string ⟨#[99, 99]⟩, .int .i64 1, .int .i64 0, .int .i64 0] 28
  obtain ⟨gP, hgP⟩ : ∃ b, w3.heap.size = b := ⟨_, rfl⟩
  rw [hgP] at hx4
  have hch : ChAt w1 w4 B (.slice (some ⟨gP, 0, none⟩) 1 1) [ccP] St.empty := by
    have h24 := h3.trans (hb4.mono h3.size)
    have hlt := HST.out.lt
    have h3s := h3.size
    have hne : ∀ b, b < w2.heap.size → (Value.slice (some ⟨gP, 0, none⟩) 1 1).ownBlock ≠ some b := fun b hb e => (show gP ≠ b by omega) (by simpa [Value.ownBlock] using e)
    have hgb : w1.heap.size ≤ gP := by have := HB2.out.size; omega
    exact ⟨F0, (HST.out.keepF (Nat.le_refl _) (fun b hb _ => hne b hb) (fun _ _ _ => rfl)).below h24, fun b hb => ⟨HF0.out b hb, hne b (hlt b hb)⟩, by have := owns_oneC (q := ccP) (S := ⟨#[99, 99]⟩) rfl hgb hx4; simpa using this, HB2.out.trans (h24.mono HB2.out.size)⟩
  have HC4 := Lib.hid hch
  clear h3 hb4 hx4 hch y1 y2
  go_wp2_with fail
  refine (pkg_any w4 _ _).mono ?_
  rintro e w5 ⟨rfl, h5⟩
  have HC5 := Lib.hid (HC4.out.below h5)
  clear h5
  go_wp2_with fail
  refine (ch_seed HC5.out n_cc 1 (by decide) rfl).mono ?_
  rintro e w6 ⟨rfl, h6⟩
  rw [seed_cc N] at h6
  have HC6 := Lib.hid h6
  clear h6
  obtain ⟨iP, hiP, hzP0, hzP1, hzP2⟩ := info_parts infoPkg
  have HI := Lib.hid (And.intro hiP (And.intro hzP0 (And.intro hzP1 hzP2)))
  clear hiP hzP0 hzP1 hzP2
  go_wp2_with fail
  go_loopw [6, 8] (fun y x wr => ∃ (k m : Nat) (a : Option Addr) (c : Nat), y = .slice a m c ∧ x = .int .i64 k ∧ k ≤ N ∧ m ≤ k + 1 ∧ Hid (m = (poolC K k).length) ∧ Hid (ChAt w1 wr B (.slice a m c) (poolC K k) (stC N k))) (fun _ x _ => N - (intOf x).toNat)
  case atStart => exact ⟨0, 1, _, _, rfl, rfl, Nat.zero_le _, by omega, Lib.hid rfl, HC6⟩
  case round =>
    obtain ⟨k, m, a, c, rfl, rfl, hk, hmk, hm, hch⟩ := hrel
    by_cases hlt : k < N
    · obtain ⟨C, hC⟩ : ∃ C, C = abc.extract (k) (k + 1) := ⟨_, rfl⟩
      have hsC : strV (letC (k)) = .string C := by rw [hC]; exact abc_cut (by omega)
      have hsl : (⟨#[97, 98, 99, 100, 101, 102, 103, 104, 105, 106, 107, 108, 109, 110, 111, 112, 113, 114, 115, 116, 117, 118, 119, 120, 121, 122]⟩ : ByteArray).extract (k) (k + 1) = C := hC.symm
      have HCS := Lib.hid hsC
      clear hC hsC
      go_wp2_with fail
      try rw [hsl]
      refine (pkg_any wr C 1).mono ?_
      rintro e v1 ⟨rfl, f1⟩
      go_wp2_with fail
      refine (dep_any v1 _ _ _ (by decide) (by decide)).mono ?_
      rintro e v2 ⟨g2, rfl, hg2, hx2, f2⟩
      have hb2 := f1.trans (f2.mono f1.size)
      obtain ⟨w5, hw5, hb5, hx9, y1, y2⟩ := any_block v2 #[.string C, .int .i64 1, .int .i64 0, .int .i64 0, .string ⟨#[99, 99]⟩, .slice (some ⟨g2, 0, none⟩) 1 1, .slice none 0 0, .slice none 0 0] 39
      obtain ⟨b9, hb9⟩ : ∃ b, v2.heap.size = b := ⟨_, rfl⟩
      rw [hb9] at hx9
      have hb25 := hb2.trans (hb5.mono hb2.size)
      have HTD2 := Lib.hid (show DepAt zAll v2 (.string ⟨#[99, 99]⟩) (.slice (some ⟨g2, 0, none⟩) 1 1) ccD from depAt_one rfl (by decide) hx2 trivial); have HB2 := Lib.hid hb2; have HB5 := Lib.hid hb5; have HB25 := Lib.hid hb25; have HZ := Lib.hid (show wr.heap.size ≤ b9 by have := hb2.size; omega); have HX5 := Lib.hid hx9; have HW5 := Lib.hid hw5
      clear f1 f2 hx2 hb2 hb5 hb25 hw5 y1 y2 hsl
      go_upto_region 13 with fail
      try rw [HW5.out]
      by_cases hl : k + 1 < N
      · obtain ⟨C2, hC2⟩ : ∃ C, C = abc.extract (k + 1) (k + 2) := ⟨_, rfl⟩
        have hsC2 : strV (letC (k + 1)) = .string C2 := by rw [hC2]; exact abc_cut (by omega)
        have hsl : (⟨#[97, 98, 99, 100, 101, 102, 103, 104, 105, 106, 107, 108, 109, 110, 111, 112, 113, 114, 115, 116, 117, 118, 119, 120, 121, 122]⟩ : ByteArray).extract (k + 1) (k + 2) = C2 := hC2.symm
        have HC2 := Lib.hid hsC2
        clear hC2 hsC2
        have q0 := cell_of_heap HX5.out 0
        have q1 := cell_of_heap HX5.out 1
        have q2 := cell_of_heap HX5.out 2
        have q3 := cell_of_heap HX5.out 3
        have q4 := cell_of_heap HX5.out 4
        have q5 := cell_of_heap HX5.out 5
        have q6 := cell_of_heap HX5.out 6
        have q7 := cell_of_heap HX5.out 7
        have qf := frozen_of_heap HX5.out
        clear hx9
        go_wp2_with fail
        try rw [hsl]
        refine (dep_any w5 C2 _ _ (by decide) (by decide)).mono ?_
        rintro e v6 ⟨g3, rfl, hg3, hx3, f6⟩
        obtain ⟨w8, hw8, hb8, hx8, y1, y2⟩ := any_block v6 #[.string C2, .slice (some ⟨g3, 0, none⟩) 1 1] 35
        obtain ⟨b8, hb8e⟩ : ∃ b, v6.heap.size = b := ⟨_, rfl⟩
        rw [hb8e] at hx8
        have h58 := f6.trans (hb8.mono f6.size)
        have hx58 := (h58.block _ (lt_of_heap HX5.out)).trans HX5.out
        obtain ⟨W9, hW9⟩ : ∃ W, w8.setCell ⟨b9, 7, none⟩ (.slice (some ⟨b8, 0, none⟩) 1 1) = W := ⟨_, rfl⟩
        have hx9 : W9.heap[b9]? = some (.cells #[.string C, .int .i64 1, .int .i64 0, .int .i64 0, .string ⟨#[99, 99]⟩, .slice (some ⟨g2, 0, none⟩) 1 1, .slice none 0 0, .slice (some ⟨b8, 0, none⟩) 1 1] 39 (0, 0)) := by rw [← hW9]; exact set_at 7 _ hx58 (by simp)
        have hb29 : Below v2.heap.size v2 W9 := by rw [← hW9]; exact below_set (HB5.out.trans (h58.mono HB5.out.size)) (Nat.le_of_eq hb9) 7 _
        have hbr9 : Below wr.heap.size wr W9 := HB2.out.trans (hb29.mono HB2.out.size)
        have HTD : DepAt zAll W9 (.string ⟨#[99, 99]⟩) (.slice (some ⟨g2, 0, none⟩) 1 1) ccD := HTD2.out.below hb29
        have hlt5 := lt_of_heap HX5.out
        have hx39 : W9.heap[g3]? = some (.cells #[.int .i64 (1 * 1000000), .int .i64 (2 * 1000000)] 58 (0, 0)) := by rw [← hW9]; exact (Below.heap_setCell _ _ _ _ (fun e => by have : g3 = b9 := e; omega)).trans ((hb8.block _ (lt_of_heap hx3)).trans hx3)
        have hx89 : W9.heap[b8]? = some (.cells #[.string C2, .slice (some ⟨g3, 0, none⟩) 1 1] 35 (0, 0)) := by rw [← hW9]; exact (Below.heap_setCell _ _ _ _ (fun e => by have : b8 = b9 := e; have := f6.size; omega)).trans hx8
        have HRN : DepsAt zAll W9 (.slice (some ⟨b8, 0, none⟩) 1 1) (rcC N k).run := by
          show DepsAt zAll W9 _ (runW N (k + 1))
          unfold runW
          rw [if_pos hl]
          exact depsAt_one hx89 trivial (depAt_one HC2.out (by simp [letC]) hx39 trivial)
        have k0 := cell_of_heap hx58 7
        have kf := frozen_of_heap hx58
        clear q0 q1 q2 q3 q4 q5 q6 q7 qf
        go_upto_region 15 with fail
        try rw [hW9]
        have q0 := cell_of_heap hx9 0
        have q1 := cell_of_heap hx9 1
        have q2 := cell_of_heap hx9 2
        have q3 := cell_of_heap hx9 3
        have q4 := cell_of_heap hx9 4
        have q5 := cell_of_heap hx9 5
        have q6 := cell_of_heap hx9 6
        have q7 := cell_of_heap hx9 7
        have hrec : RecAt zAll W9 [.string C, .int .i64 1, .int .i64 0, .int .i64 0, .string ⟨#[99, 99]⟩, .slice (some ⟨g2, 0, none⟩) 1 1, .slice none 0 0, .slice (some ⟨b8, 0, none⟩) 1 1] (rcC N k) := ⟨_, _, _, _, by rw [show strV (rcC N k).pkg.1 = .string C from HCS.out]; rfl, by show (letC k).length ≤ _; simp [letC], HTD, depsAt_none, HRN⟩
        have hadd := ch_add hch.out hbr9 hrec
        rw [add_C hN hlt] at hadd
        dsimp only at hadd
        have HADD := Lib.hid hadd
        have HX9 := Lib.hid hx9
        clear hadd hrec hx9
        go_wp2_with fail
        refine HADD.out.mono ?_
        rintro e wA ⟨rfl, hcA, hkA⟩
        have hxA := (hkA b9 (by have := HZ.out; omega) (lt_of_heap HX9.out)).trans HX9.out
        have HCA := Lib.hid hcA; have HXA := Lib.hid hxA
        clear hcA hkA hxA q0 q1 q2 q3 q4 q5 q6 q7
        have q0 := cell_of_heap HXA.out 0
        have q1 := cell_of_heap HXA.out 1
        have q2 := cell_of_heap HXA.out 2
        have q3 := cell_of_heap HXA.out 3
        have q4 := cell_of_heap HXA.out 4
        have q5 := cell_of_heap HXA.out 5
        have q6 := cell_of_heap HXA.out 6
        have q7 := cell_of_heap HXA.out 7
        have hnx := pool_next K k
        by_cases hkK : k = K
        · have hpe : poolC K (k + 1) = poolC K k := by rw [hnx, if_pos hkK]
          have HM := Lib.hid (show m = (poolC K (k + 1)).length by rw [hpe]; exact hm.out); have HCN := Lib.hid (show ChAt w1 wA B (.slice a m c) (poolC K (k + 1)) (stC N (k + 1)) by rw [hpe]; exact HCA.out)
          have hki : ((k : Int) == (K : Int)) = true := by simp; omega
          clear hpe hnx
          go_wp2_with fail
          go_roundw
          case rel => exact ⟨k + 1, m, a, c, rfl, by go_num, hlt, by omega, HM, HCN⟩
          case measure => simp [intOf]; omega
        · have hpe : poolC K (k + 1) = poolC K k ++ [pkC k] := by rw [hnx, if_neg hkK]
          have HPE := Lib.hid hpe
          have hki : ((k : Int) == (K : Int)) = false := by simp; omega
          clear hpe hnx
          obtain ⟨wB, hwB, hbB, hxB, z1, z2⟩ := any_block wA #[.string C, .int .i64 1, .int .i64 0, .int .i64 0] 28
          obtain ⟨bB, hbBe⟩ : ∃ b, wA.heap.size = b := ⟨_, rfl⟩
          rw [hbBe] at hxB
          have hcB := HCA.out.below hbB
          have HCB := Lib.hid hcB
          have hsrc := src_pkC (q := pkC k) HCS.out hxB
          obtain ⟨FB, -, -, hown0, hlow⟩ := hcB
          rw [← hm.out] at hown0
          have HSRC := Lib.hid hsrc; have HOW0 := Lib.hid hown0; have HSZB := Lib.hid hlow.size
          clear hbB hxB hsrc hown0 hlow z1 z2
          go_wp2_with (first | (at_builtin; refine wpList_append_srcs rfl (.tmp 68) (.tmp 71) 30 30 rfl w1.heap.size 28 iP _ 4 40 Try.underlying30 HI.out.1 HI.out.2.1 HI.out.2.2.1 HI.out.2.2.2 rfl (by decide) (.slice a m c) rfl m ((poolC K k).flatMap pkL) HOW0.out (.slice (some ⟨bB, 0, none⟩) 1 1) rfl 1 (pkL (pkC k)) HSRC.out (by unfold maxLen; omega) (by omega) HSZB.out ?_; intro a' c' w7 hown hgrow _ hblk; have HOWN := Lib.hid hown; have HGROW := Lib.hid hgrow; have HBLK := Lib.hid hblk; clear hown hgrow hblk) | fail)
          have HCN := Lib.hid (show ChAt w1 w7 B (.slice a' (m + 1) c') (poolC K (k + 1)) (stC N (k + 1)) by rw [HPE.out]; exact HCB.out.push hm.out HOWN.out HGROW.out HBLK.out); have HM := Lib.hid (show m + 1 = (poolC K (k + 1)).length by rw [HPE.out, List.length_append, ← hm.out]; rfl)
          go_roundw
          case rel => exact ⟨k + 1, m + 1, a', c', rfl, by go_num, hlt, by omega, HM, HCN⟩
          case measure => simp [intOf]; omega
      · have HTD : DepAt zAll w5 (.string ⟨#[99, 99]⟩) (.slice (some ⟨g2, 0, none⟩) 1 1) ccD := HTD2.out.below HB5.out
        have HRN : DepsAt zAll w5 (.slice none 0 0) (rcC N k).run := by
          show DepsAt zAll w5 _ (runW N (k + 1))
          unfold runW
          rw [if_neg hl]
          exact depsAt_none
        have q0 := cell_of_heap hx9 0
        have q1 := cell_of_heap hx9 1
        have q2 := cell_of_heap hx9 2
        have q3 := cell_of_heap hx9 3
        have q4 := cell_of_heap hx9 4
        have q5 := cell_of_heap hx9 5
        have q6 := cell_of_heap hx9 6
        have q7 := cell_of_heap hx9 7
        have hrec : RecAt zAll w5 [.string C, .int .i64 1, .int .i64 0, .int .i64 0, .string ⟨#[99, 99]⟩, .slice (some ⟨g2, 0, none⟩) 1 1, .slice none 0 0, .slice none 0 0] (rcC N k) := ⟨_, _, _, _, by rw [show strV (rcC N k).pkg.1 = .string C from HCS.out]; rfl, by show (letC k).length ≤ _; simp [letC], HTD, depsAt_none, HRN⟩
        have hadd := ch_add hch.out HB25.out hrec
        rw [add_C hN hlt] at hadd
        dsimp only at hadd
        have HADD := Lib.hid hadd
        have HX9 := Lib.hid hx9
        clear hadd hrec hx9
        go_wp2_with fail
        refine HADD.out.mono ?_
        rintro e wA ⟨rfl, hcA, hkA⟩
        have hxA := (hkA b9 (by have := HZ.out; omega) (lt_of_heap HX9.out)).trans HX9.out
        have HCA := Lib.hid hcA; have HXA := Lib.hid hxA
        clear hcA hkA hxA q0 q1 q2 q3 q4 q5 q6 q7
        have q0 := cell_of_heap HXA.out 0
        have q1 := cell_of_heap HXA.out 1
        have q2 := cell_of_heap HXA.out 2
        have q3 := cell_of_heap HXA.out 3
        have q4 := cell_of_heap HXA.out 4
        have q5 := cell_of_heap HXA.out 5
        have q6 := cell_of_heap HXA.out 6
        have q7 := cell_of_heap HXA.out 7
        have hnx := pool_next K k
        by_cases hkK : k = K
        · have hpe : poolC K (k + 1) = poolC K k := by rw [hnx, if_pos hkK]
          have HM := Lib.hid (show m = (poolC K (k + 1)).length by rw [hpe]; exact hm.out); have HCN := Lib.hid (show ChAt w1 wA B (.slice a m c) (poolC K (k + 1)) (stC N (k + 1)) by rw [hpe]; exact HCA.out)
          have hki : ((k : Int) == (K : Int)) = true := by simp; omega
          clear hpe hnx
          go_wp2_with fail
          go_roundw
          case rel => exact ⟨k + 1, m, a, c, rfl, by go_num, hlt, by omega, HM, HCN⟩
          case measure => simp [intOf]; omega
        · have hpe : poolC K (k + 1) = poolC K k ++ [pkC k] := by rw [hnx, if_neg hkK]
          have HPE := Lib.hid hpe
          have hki : ((k : Int) == (K : Int)) = false := by simp; omega
          clear hpe hnx
          obtain ⟨wB, hwB, hbB, hxB, z1, z2⟩ := any_block wA #[.string C, .int .i64 1, .int .i64 0, .int .i64 0] 28
          obtain ⟨bB, hbBe⟩ : ∃ b, wA.heap.size = b := ⟨_, rfl⟩
          rw [hbBe] at hxB
          have hcB := HCA.out.below hbB
          have HCB := Lib.hid hcB
          have hsrc := src_pkC (q := pkC k) HCS.out hxB
          obtain ⟨FB, -, -, hown0, hlow⟩ := hcB
          rw [← hm.out] at hown0
          have HSRC := Lib.hid hsrc; have HOW0 := Lib.hid hown0; have HSZB := Lib.hid hlow.size
          clear hbB hxB hsrc hown0 hlow z1 z2
          go_wp2_with (first | (at_builtin; refine wpList_append_srcs rfl (.tmp 68) (.tmp 71) 30 30 rfl w1.heap.size 28 iP _ 4 40 Try.underlying30 HI.out.1 HI.out.2.1 HI.out.2.2.1 HI.out.2.2.2 rfl (by decide) (.slice a m c) rfl m ((poolC K k).flatMap pkL) HOW0.out (.slice (some ⟨bB, 0, none⟩) 1 1) rfl 1 (pkL (pkC k)) HSRC.out (by unfold maxLen; omega) (by omega) HSZB.out ?_; intro a' c' w7 hown hgrow _ hblk; have HOWN := Lib.hid hown; have HGROW := Lib.hid hgrow; have HBLK := Lib.hid hblk; clear hown hgrow hblk) | fail)
          have HCN := Lib.hid (show ChAt w1 w7 B (.slice a' (m + 1) c') (poolC K (k + 1)) (stC N (k + 1)) by rw [HPE.out]; exact HCB.out.push hm.out HOWN.out HGROW.out HBLK.out); have HM := Lib.hid (show m + 1 = (poolC K (k + 1)).length by rw [HPE.out, List.length_append, ← hm.out]; rfl)
          go_roundw
          case rel => exact ⟨k + 1, m + 1, a', c', rfl, by go_num, hlt, by omega, HM, HCN⟩
          case measure => simp [intOf]; omega
    · obtain rfl : N = k := by omega
      go_wp2_with fail
      refine (pkg_any wr _ _).mono ?_
      rintro e v1 ⟨rfl, f1⟩
      go_wp2_with fail
      refine (dep_any v1 _ _ _ (by decide) (by decide)).mono ?_
      rintro e v2 ⟨g2, rfl, hg2, hx2, f2⟩
      have HTD2 := Lib.hid (show DepAt zAll v2 (.string ⟨#[99, 99]⟩) (.slice (some ⟨g2, 0, none⟩) 1 1) ccD from depAt_one rfl (by decide) hx2 trivial); have HB2 := Lib.hid (f1.trans (f2.mono f1.size))
      clear f1 f2 hx2
      go_wp2_with fail
      refine (dep_any v2 _ _ _ (by decide) (by decide)).mono ?_
      rintro e v3 ⟨g3, rfl, hg3, hx3, f3⟩
      obtain ⟨w5, hw5, hb5, hx5, y1, y2⟩ := any_block v3 #[.string ⟨#[97]⟩, .slice (some ⟨g3, 0, none⟩) 1 1] 35
      obtain ⟨b5, hb5e⟩ : ∃ b, v3.heap.size = b := ⟨_, rfl⟩
      rw [hb5e] at hx5
      have f35 := f3.trans (hb5.mono f3.size)
      have hrec : RecAt zAll w5 [.string ⟨#[116, 111, 112]⟩, .int .i64 1, .int .i64 0, .int .i64 0, .string ⟨#[99, 99]⟩, .slice (some ⟨g2, 0, none⟩) 1 1, .slice (some ⟨b5, 0, none⟩) 1 1, .slice none 0 0] topR := ⟨_, _, _, _, rfl, by decide, HTD2.out.below f35, depsAt_one hx5 trivial ((depAt_one rfl (by decide) hx3 trivial : DepAt zAll v3 _ _ _).below hb5), depsAt_none⟩
      have hadd := ch_add hch.out (HB2.out.trans (f35.mono HB2.out.size)) hrec
      rw [add_top hN] at hadd
      dsimp only at hadd
      have HADD := Lib.hid hadd
      clear hadd hrec f3 f35 hb5 hx5 hx3 y1 y2
      go_wp2_with fail
      refine HADD.out.mono ?_
      rintro e wA ⟨rfl, hcA, -⟩
      have HCA := Lib.hid hcA
      clear hcA
      go_wp2_with fail
      refine (pkg_any wA _ _).mono ?_
      rintro e wB ⟨rfl, fB⟩
      have HCB := Lib.hid (HCA.out.below fB)
      clear fB
      obtain ⟨res, hres⟩ : ∃ r, r = solveT (stT N) topP (poolC K N) 100 := ⟨_, rfl⟩
      have hso : Calls _ _ _ wB _ := ch_solve HCB.out (Nat.le_trans (pool_len K N) (by omega)) n_top 1 rfl 100 (by decide)
      rw [show solveT (stT N) (n_top, 1, 0, 0) (poolC K N) 100 = res from hres.symm] at hso
      have HSO := Lib.hid hso
      clear hso
      go_wp2_with fail
      refine HSO.out.mono ?_
      intro e wC hsp
      have HLB := Lib.hid (HB1.out.trans (HCB.out.low.mono HB1.out.size))
      by_cases hKN : K < N
      · rw [solve_C_no hN hKN] at hres
        rw [hres] at hsp
        obtain ⟨s, a9, k9, rfl, h9⟩ := chainNone hsp
        have hlt9 : (K : Int) < (N : Int) := by omega
        obtain ⟨wD, hwD, hbD, hxD, y1, y2⟩ := any_block wC #[.string s, .int .i64 0, .int .i64 0, .int .i64 0, .slice a9 0 k9] 42
        obtain ⟨bD, hbDe⟩ : ∃ b, wC.heap.size = b := ⟨_, rfl⟩
        rw [hbDe] at hxD
        have d0 := cell_of_heap hxD 0
        have d1 := cell_of_heap hxD 1
        have d2 := cell_of_heap hxD 2
        have d3 := cell_of_heap hxD 3
        have d4 := cell_of_heap hxD 4
        have HBE := Lib.hid (HLB.out.trans ((h9.trans (hbD.mono h9.size)).mono HLB.out.size))
        clear hres hsp h9 hbD hxD y1 y2
        go_wp2_with fail
        go_ret
        exact ⟨by simp, HBE.out⟩
      · rw [solve_C_ok hN1 hN (by omega)] at hres
        rw [hres] at hsp
        obtain ⟨s, g, k9, rfl, hk9, hc0, h9⟩ := chainYes hN1 hsp
        obtain ⟨wD, hwD, hbD, hxD, y1, y2⟩ := any_block wC #[.string s, .int .i64 1, .int .i64 0, .int .i64 0, .slice (some ⟨g, 0, none⟩) N k9] 42
        obtain ⟨bD, hbDe⟩ : ∃ b, wC.heap.size = b := ⟨_, rfl⟩
        rw [hbDe] at hxD
        have HBE := Lib.hid (HLB.out.trans ((h9.trans (hbD.mono h9.size)).mono HLB.out.size))
        obtain ⟨ι, F, hF0, hFB, hFG⟩ := below_fam wD
        have hpf := fun (T : ByteArray) (i : Int) => calls_fam hFB hFG (fun W _ => pkg_any W T i)
        have hcF : ∀ n, (F n).heap[bD]? = some (.cells #[.string s, .int .i64 1, .int .i64 0, .int .i64 0, .slice (some ⟨g, 0, none⟩) N k9] 42 (0, 0)) := fun n => ((hFB n).block bD (lt_of_heap hxD)).trans hxD
        have f0 := fun n => cell_of_heap (hcF n) 0
        have f1 := fun n => cell_of_heap (hcF n) 1
        have f2 := fun n => cell_of_heap (hcF n) 2
        have f3 := fun n => cell_of_heap (hcF n) 3
        have f4 := fun n => cell_of_heap (hcF n) 4
        have e0 : ∀ n, (F n).cell? ⟨g, 0, none⟩ = some (.string ⟨#[97]⟩) := fun n => below_keeps (hFB n) _ _ (below_keeps hbD _ _ (hc0 0 _ rfl))
        have e1 : ∀ n, (F n).cell? ⟨g, 1, none⟩ = some (.int .i64 1) := fun n => below_keeps (hFB n) _ _ (below_keeps hbD _ _ (hc0 1 _ rfl))
        have e2 : ∀ n, (F n).cell? ⟨g, 2, none⟩ = some (.int .i64 0) := fun n => below_keeps (hFB n) _ _ (below_keeps hbD _ _ (hc0 2 _ rfl))
        have e3 : ∀ n, (F n).cell? ⟨g, 3, none⟩ = some (.int .i64 0) := fun n => below_keeps (hFB n) _ _ (below_keeps hbD _ _ (hc0 3 _ rfl))
        have q0 : ∀ W, (binOp .eql 28 (.agg #[.string ⟨#[97]⟩, .int .i64 1, .int .i64 0, .int .i64 0]) (.agg #[.string ⟨#[97]⟩, .int .i64 1, .int .i64 0, .int .i64 0])).run Try.prog W = .ok (.bool true) W := fun W => eqPk.1 ([97], 1, 0, 0) ([97], 1, 0, 0) W
        have hnn : (((N : Int) + 1) == ((N : Int) + 1)) = true := by simp
        have hn2 : ((N : Int) == (N : Int)) = true := by simp
        have hlt9 : ¬ (K : Int) < (N : Int) := by omega
        have HPF := Lib.hid hpf; have HFB := Lib.hid hFB; have HFZ := Lib.hid hF0
        clear hpf hFB hF0 hFG hcF hbD hxD hc0 h9 hsp hres y1 y2
        go_wp2_with fail
        obtain ⟨n0, hn0⟩ := HFZ.out 1
        have hne : Nonempty ι := ⟨n0⟩
        refine wp_region_fam F n0 hn0 (by kernel_rfl) (by kernel_rfl) ?_
        repeat (go_big_quiet_step ((go_at_call 6; exact HPF.out _ _ _)))
        refine wpQuiet_nil ?_
        intro _ hw'
        obtain ⟨m0, hw''⟩ := hw'
        subst hw''
        go_wp2_with fail
        go_ret
        exact ⟨rfl, HBE.out.trans ((HFB.out _).mono HBE.out.size)⟩
end Go.Proofs.Ytnbeklmjinnbaaa
