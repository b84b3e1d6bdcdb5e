/- DERIVED. slices.Insert at pairs of texts where a new row is made; the one contract. -/
import Derived.Test.YtipindjchcmckaaShelfB
namespace Go.Proofs.Ytipindjchcmckaa
open Go.RowKit
set_option linter.unusedVariables false

theorem grow_row {ps : List Pr} {i G : Nat} (p : Pr) (hi : i ≤ ps.length) (hG : ps.length + 1 ≤ G) (z r : Array Value) (hz : z.size = (ps.length + 1 - i) * 2) (hr : r.size = (G - (ps.length + 1)) * 2)
    {row row1 row2 : Array Value} (h0 : row = ((pairsV ps).take (i * 2)).toArray ++ z ++ r) (h1 : row1 = (row.toList.take (i * 2) ++ pairV p ++ row.toList.drop (i * 2 + (pairV p).length)).toArray)
    (h2 : row2 = (row1.toList.take ((i + 1) * 2) ++ (pairsV ps).drop (i * 2) ++ row1.toList.drop ((i + 1) * 2 + ((pairsV ps).drop (i * 2)).length)).toArray) :
    row.size = G * 2 ∧ row1.size = G * 2 ∧ row2.size = G * 2 ∧ row2.toList.take ((ps.length + 1) * 2) = pairsV (insAt ps i p) := by
  have key := ins_grow z.toList r.toList (pairsV ps) (pairV p) i ps.length 2 (pairsV_length ps) rfl hi (by rw [Array.length_toList (xs := z)]; exact hz)
  simp only at key
  have g0 : ((pairsV ps).take (i * 2) ++ z.toList ++ r.toList) = row.toList := by rw [h0]; simp
  rw [g0] at key
  have g1 : (row.toList.take (i * 2) ++ pairV p ++ row.toList.drop (i * 2 + (pairV p).length)) = row1.toList := by rw [h1]
  rw [g1] at key
  have g2 : (row1.toList.take ((i + 1) * 2) ++ (pairsV ps).drop (i * 2) ++ row1.toList.drop ((i + 1) * 2 + ((pairsV ps).drop (i * 2)).length)) = row2.toList := by rw [h2]
  rw [g2] at key
  obtain ⟨e1, e2, e3, e4⟩ := key
  have l0 : row.toList.length = G * 2 := by rw [e4, Array.length_toList (xs := r), hr]; omega
  refine ⟨(Array.length_toList (xs := row)).symm.trans l0, (Array.length_toList (xs := row1)).symm.trans (e2.trans l0), (Array.length_toList (xs := row2)).symm.trans (e3.trans l0), ?_⟩
  rw [e1, ← pairsV_take, ← pairsV_drop]
  unfold insAt
  rw [pairsV_append, List.append_assoc]
  rfl
set_option maxHeartbeats 4000000 in
set_option maxRecDepth 100000 in
theorem ins_more (w : World) (base g c i : Nat) (cur : Array Value) (ps : List Pr) (vb : Nat) (p : Pr) (hb : base ≤ w.heap.size) (hg : w.heap[g]? = some (.cells cur 61 (0, 0))) (hcm : c ≤ maxLen) (hsz : cur.size = c * 2) (htk : cur.toList.take (ps.length * 2) = pairsV ps)
    (hp : PairAt w vb p) (hne : vb ≠ g) (hl : ps.length ≤ 1000000) (hi : i < ps.length) (hle : ps.length ≤ c) (hroom : c < ps.length + 1) :
    Calls Try.prog 32 #[.slice (some ⟨g, 0, none⟩) ps.length c, .int .i64 i, .slice (some ⟨vb, 0, none⟩) 1 1] w (Inserted w base (.slice (some ⟨g, 0, none⟩) ps.length c) ps.length (pairsV (insAt ps i p))) := by
  have hgl := lt_of_heap hg
  have hvl := lt_of_heap hp
  obtain ⟨i0, hi0, hz0, hz1, hz2⟩ := info_parts infoPair
  have hdl : ((pairsV ps).drop (i * 2)).length = (ps.length - i) * 2 := by rw [List.length_drop, pairsV_length, Nat.sub_mul]
  have hread : ∀ j v, (pairsV ps)[j]? = some v → w.cell? ⟨g, j, none⟩ = some v := by
    intro j v hj
    rw [cell_of_heap hg]
    rw [← htk, List.getElem?_take] at hj
    split at hj
    · rw [← Array.getElem?_toList]; exact hj
    · cases hj
  have hold : (Builtin.firstCells i0.size i (.slice (some ⟨g, 0, none⟩) i c)).run Try.prog w.drew = .ok ((pairsV ps).take (i * 2)).toArray w.drew := by
    rw [hz1]
    refine run_firstCells_some w.drew 2 i ⟨g, 0, none⟩ i c ((pairsV ps).take (i * 2)) (by rw [List.length_take, pairsV_length]; omega) (fun j v hj => ?_)
    rw [Addr.add_lit, Nat.zero_add]
    rw [List.getElem?_take] at hj
    split at hj
    · exact hread j v hj
    · cases hj
  obtain ⟨Z, hZ⟩ : ∃ Z, Z = Builtin.zeroCells (Value.agg #[Value.string ByteArray.empty, Value.string ByteArray.empty]).cells (ps.length + 1 - i) := ⟨_, rfl⟩
  obtain ⟨G, hG⟩ : ∃ G, G = grownCap w (ps.length + 1) c 61 := ⟨_, rfl⟩
  obtain ⟨R, hR⟩ : ∃ R, R = Builtin.zeroCells (Value.agg #[Value.string ByteArray.empty, Value.string ByteArray.empty]).cells (G - (ps.length + 1)) := ⟨_, rfl⟩
  have hrz : ∀ ty, (Builtin.append_ #[55, 3] ty #[.slice (some ⟨g, 0, none⟩) i c, .int .i64 ((ps.length : Int) + 1 - (i : Int))]).run Try.prog w =
      .ok (.slice (some ⟨w.heap.size, 0, none⟩) (ps.length + 1) G) (w.drew.alloc (.cells (((pairsV ps).take (i * 2)).toArray ++ Z ++ R) 61)) := fun ty => by
    have h := Lib.run_append_grow_zeros (P := Try.prog) w 55 3 ty 61 i0 _ .i64 .i64 Try.underlying55 Try.underlying3 hi0 hz0 (some ⟨g, 0, none⟩) i c ((pairsV ps).take (i * 2)) hold (ps.length + 1 - i) (by omega) (by omega) (by omega) (by omega) (by rw [hz2]; omega) (by rw [hz2, show i + (ps.length + 1 - i) = ps.length + 1 from by omega]; exact growslice_fits hroom (by omega))
    rw [show i + (ps.length + 1 - i) = ps.length + 1 from by omega, ← hG, ← hZ, ← hR] at h
    rw [show (ps.length : Int) + 1 - (i : Int) = ((ps.length + 1 - i : Nat) : Int) from by omega]
    exact h
  have hGn : ps.length + 1 ≤ G := by rw [hG]; exact grownCap_ge w _ _ _
  have hG63 : G ≤ 9223372036854775807 := by
    have := grownCap_le_maxLen w (ps.length + 1) c 61 (by unfold maxLen; omega)
    rw [← hG] at this
    unfold maxLen at this
    omega
  obtain ⟨row, hrow⟩ : ∃ r, r = ((pairsV ps).take (i * 2)).toArray ++ Z ++ R := ⟨_, rfl⟩
  obtain ⟨row1, hrow1⟩ : ∃ c, c = (row.toList.take (i * 2) ++ pairV p ++ row.toList.drop (i * 2 + (pairV p).length)).toArray := ⟨_, rfl⟩
  obtain ⟨row2, hrow2⟩ : ∃ c, c = (row1.toList.take ((i + 1) * 2) ++ (pairsV ps).drop (i * 2) ++ row1.toList.drop ((i + 1) * 2 + ((pairsV ps).drop (i * 2)).length)).toArray := ⟨_, rfl⟩
  obtain ⟨z0, z1, z2, z3⟩ := grow_row p (Nat.le_of_lt hi) hGn Z R (by rw [hZ, size_zeroCells]; rfl) (by rw [hR, size_zeroCells]; rfl) hrow hrow1 hrow2
  rw [← hrow] at hrz
  obtain ⟨wa, ewa⟩ : ∃ wa, wa = w.drew.alloc (.cells row 61) := ⟨_, rfl⟩
  rw [← ewa] at hrz
  have hga : wa.heap[w.heap.size]? = some (.cells row 61 (0, 0)) := by rw [ewa]; exact heap_alloc_new w.drew _
  have hpa : PairAt wa vb p := by unfold PairAt; rw [ewa]; exact (Below.heap_alloc w.drew _ vb hvl).trans hp
  have hcp1 : ∀ ty dc, (Builtin.copy_ #[55, 55] ty #[.slice (some ⟨w.heap.size, i * 2, none⟩) (ps.length + 1 - i) dc, .slice (some ⟨vb, 0, none⟩) 1 1]).run Try.prog wa = .ok (goInt 1) (wa.setRow w.heap.size row1) := by
    intro ty dc
    rw [hrow1]
    exact run_copy_rowN wa _ _ ty 61 2 w.heap.size (i * 2) (ps.length + 1 - i) dc ⟨vb, 0, none⟩ 1 1 row _ (pairV p) 1 Try.underlying55 (by kernel_rfl) hga (by simp only [Nat.min_def]; split <;> omega) rfl (fun j v hj => by
      rw [Addr.add_lit, Nat.zero_add]
      exact (cell_of_heap hpa j).trans (by simpa [pairV] using hj)) (by rw [z0]; show i * 2 + 2 ≤ _; omega) (by intro u hu; simp [pairV] at hu; rcases hu with rfl | rfl <;> rfl)
  obtain ⟨w1, ew1⟩ : ∃ w1, w1 = wa.setRow w.heap.size row1 := ⟨_, rfl⟩
  have hg1 : w1.heap[w.heap.size]? = some (.cells row1 61 (0, 0)) := by rw [ew1]; exact setRow_heap wa _ row _ _ _ hga
  have hr1 : ∀ j v, (pairsV ps)[j]? = some v → w1.drew.cell? ⟨g, j, none⟩ = some v := by
    intro j v hj
    have : w1.heap[g]? = w.heap[g]? := by
      rw [ew1, setRow_other wa w.heap.size g _ (by omega), ewa]
      exact Below.heap_alloc w.drew _ g hgl
    rw [← hread j v hj]
    exact World.cell?_of_block (a := ⟨g, j, none⟩) this
  rw [← ew1] at hcp1
  have hcp2 : ∀ ty dc sc, (Builtin.copy_ #[55, 55] ty #[.slice (some ⟨w.heap.size, (i + 1) * 2, none⟩) (ps.length - i) dc, .slice (some ⟨g, i * 2, none⟩) (ps.length - i) sc]).run Try.prog w1.drew = .ok (goInt ((ps.length - i : Nat) : Int)) (w1.drew.setRow w.heap.size row2) := by
    intro ty dc sc
    rw [hrow2]
    exact run_copy_rowN w1.drew _ _ ty 61 2 w.heap.size ((i + 1) * 2) (ps.length - i) dc ⟨g, i * 2, none⟩ (ps.length - i) sc row1 _ _ (ps.length - i) Try.underlying55 (by kernel_rfl) hg1 (by simp only [Nat.min_def]; split <;> omega) hdl (fun j v hj => by rw [Addr.add_lit]; exact hr1 _ v (by rwa [List.getElem?_drop] at hj)) (by rw [hdl, z1]; omega) (fun v hv => pairsV_one ps v (List.mem_of_mem_drop hv))
  have HFIN : Hid ((w1.drew.setRow w.heap.size row2).ownsRow base 61 2 (.slice (some ⟨w.heap.size, 0, none⟩) (ps.length + 1) G) (ps.length + 1) (pairsV (insAt ps i p)) ∧ w.grownBy (w1.drew.setRow w.heap.size row2) (some g)) := by
    refine ⟨⟨by rw [pairsV_length, insAt_length _ _ _ (by omega)], .inr ⟨w.heap.size, G, row2, rfl, hb, setRow_heap w1.drew _ row1 _ _ _ hg1, hGn, by unfold maxLen; omega, z2, z3⟩⟩, ?_⟩
    rw [ew1, ewa]
    exact ⟨rfl, rfl, rfl, by simp, fun k hk hne => by
      rw [setRow_other _ _ k _ (by omega)]
      show ((w.drew.alloc _).setRow _ _).heap[k]? = _
      rw [setRow_other _ _ k _ (by omega)]
      exact Below.heap_alloc w.drew _ k hk⟩
  have hw1 : IntKind.i64.wrap ((i : Int) + 1) = (i : Int) + 1 := by rw [IntKind.wrap_i64]; omega
  have hb1 : (0 : Int) ≤ (i : Int) + 1 := by omega
  have hin : i ≤ ps.length := by omega
  have htn : ((i : Int) + 1).toNat = i + 1 := by omega
  have hb3 : (i : Int) ≤ (ps.length : Int) + 1 := by omega
  have hb2 : ¬ (G = i + 1) := by omega
  have hb5 : ¬ (G = i) := by omega
  have hb4 : ¬ (c = i) := by omega
  have hz3 : (c : Int) < (ps.length : Int) + 1 := by omega
  clear ew1 ewa hrow hrow1 hrow2 hread hold hZ hG hR z0 z1 z2 z3 hsz htk hdl hg1 hga hpa hr1 hg hp hi0 hz0 hz1 hz2
  unfold maxLen at hcm
  go_enter Try.func32, Try.ntmps32
  go_wp2_with (first
    | (at_builtin; refine Lib.wpList_append_run _ rfl _ _ _ _ rfl _ _ rfl rfl _ _ (hrz _) ?_)
    | (at_builtin; refine wpList_copy_runI _ rfl _ _ 55 55 rfl _ _ rfl rfl (hcp1 _ _) ?_))
  go_region_law (refine step_copy_runI rfl _ _ 55 55 rfl _ _ (by simp [Act.eval, Act.put]) (by simp [Act.eval, Act.put]) (hcp2 _ _ _) ?_)
  go_wp2
  go_ret
  exact ⟨_, _, rfl, HFIN.out.1, HFIN.out.2, .inr rfl⟩

/-- slices.Insert(s, i, p), i in its bounds, at a row of the call's own. -/
theorem ins_any (w : World) (base : Nat) (a : Option Addr) (c i : Nat) (ps : List Pr) (vb : Nat) (p : Pr) (hown : w.ownsRow base 61 2 (.slice a ps.length c) ps.length (pairsV ps)) (hp : PairAt w vb p) (hne : (Value.slice a ps.length c).ownBlock ≠ some vb) (hb : base ≤ w.heap.size) (hl : ps.length ≤ 1000000) (hi : i ≤ ps.length) :
    Calls Try.prog 32 #[.slice a ps.length c, .int .i64 i, .slice (some ⟨vb, 0, none⟩) 1 1] w (Inserted w base (.slice a ps.length c) ps.length (pairsV (insAt ps i p))) := by
  rcases Nat.lt_or_eq_of_le hi with hlt | rfl
  · rcases hown.2 with ⟨_, e⟩ | ⟨g, cap, cur, e, h1, h2, h3, h4, h5, h6⟩
    · omega
    · obtain ⟨rfl, _, rfl⟩ := Value.slice.inj e
      have hvg : vb ≠ g := fun e => hne (by simp [Value.ownBlock, e])
      rcases Nat.lt_or_ge c (ps.length + 1) with hr | hr
      · exact ins_more w base g c i cur ps vb p hb h2 h4 h5 h6 hp hvg hl hlt h3 hr
      · exact ins_room w base g c i cur ps vb p h1 h2 h4 h5 h6 hp hvg hl hlt hr
  · have := ins_end w base a c ps vb p hown hp hb hl
    rw [show pairsV ps ++ pairV p = pairsV (insAt ps ps.length p) from by unfold insAt; rw [List.take_length, List.drop_length, pairsV_append]; rfl] at this
    exact this
end Go.Proofs.Ytipindjchcmckaa
