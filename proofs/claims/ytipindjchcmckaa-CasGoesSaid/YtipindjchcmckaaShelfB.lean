/- DERIVED. slices.Insert at pairs of texts, on a row of the call's own. -/
import Derived.Test.YtipindjchcmckaaShelfA
import Derived.Lib.Overlaps
import Derived.Laws.Externs
import Derived.Shelf.Spec.SlicesInsert
namespace Go.Proofs.Ytipindjchcmckaa
open Go.RowKit
set_option linter.unusedVariables false

theorem infoPair : (Try.prog.info? 61).map (fun i => (i.zero, i.size, i.bytes)) = some (some (.agg #[.string ByteArray.empty, .string ByteArray.empty]), 2, 32) := by kernel_rfl
/-- What an insertion leaves. -/
def Inserted (w : World) (base : Nat) (v : Value) (n : Nat) (xs : List Value) (e : Ending) (w' : World) : Prop :=
  ∃ a' c', e = .returned (.slice a' (n + 1) c') ∧ w'.ownsRow base 61 2 (.slice a' (n + 1) c') (n + 1) xs ∧ w.grownBy w' v.ownBlock ∧ ((Value.slice a' (n + 1) c').ownBlock = v.ownBlock ∨ (Value.slice a' (n + 1) c').ownBlock = some w.heap.size)
/-- The pair that is inserted, in its own block. -/
def PairAt (w : World) (vb : Nat) (p : Pr) : Prop := w.heap[vb]? = some (.cells #[strV p.1, strV p.2] 61 (0, 0))
theorem PairAt.src {w : World} {vb : Nat} {p : Pr} (h : PairAt w vb p) : Src Try.prog 2 55 (.slice (some ⟨vb, 0, none⟩) 1 1) 1 (pairV p) w := by
  refine Src.ofSlice w Try.underlying55 ⟨vb, 0, none⟩ 1 1 (pairV p) rfl (fun j u hj => ?_) (by intro u hu; simp [pairV] at hu; rcases hu with rfl | rfl <;> rfl)
  rw [Addr.add_lit, Nat.zero_add, cell_of_heap h]
  simpa [pairV] using hj
set_option maxHeartbeats 4000000 in
set_option maxRecDepth 100000 in
theorem ins_end (w : World) (base : Nat) (a : Option Addr) (c : Nat) (ps : List Pr) (vb : Nat) (p : Pr) (hown : w.ownsRow base 61 2 (.slice a ps.length c) ps.length (pairsV ps)) (hp : PairAt w vb p) (hb : base ≤ w.heap.size) (hl : ps.length ≤ 1000000) :
    Calls Try.prog 32 #[.slice a ps.length c, .int .i64 ps.length, .slice (some ⟨vb, 0, none⟩) 1 1] w (Inserted w base (.slice a ps.length c) ps.length (pairsV ps ++ pairV p)) := by
  obtain ⟨i0, hi, hz0, hz1, hz2⟩ := info_parts infoPair
  have hsrc := hp.src
  have hcap := owns_cap hown
  clear hp
  rcases (show c = ps.length ∨ c ≠ ps.length from by omega) with rfl | hne
  · go_enter Try.func32, Try.ntmps32
    go_wp2_with (at_builtin; refine wpList_append_srcs rfl (.tmp 23) (.tmp 24) 55 55 rfl base 61 i0 _ 2 32 Try.underlying55 hi hz0 hz1 hz2 rfl (by decide) (.slice a ps.length ps.length) rfl _ _ hown _ rfl _ _ hsrc (by unfold maxLen; omega) (by omega) hb ?_; intro a' c' w' hown' hgrow _ hblk)
    go_ret
    exact ⟨a', c', rfl, hown', hgrow, hblk⟩
  · go_enter Try.func32, Try.ntmps32
    go_wp2_with (at_builtin; refine wpList_append_srcs rfl (.tmp 23) (.tmp 24) 55 55 rfl base 61 i0 _ 2 32 Try.underlying55 hi hz0 hz1 hz2 rfl (by decide) (.slice a ps.length c) rfl _ _ hown _ rfl _ _ hsrc (by unfold maxLen; omega) (by omega) hb ?_; intro a' c' w' hown' hgrow _ hblk)
    go_ret
    exact ⟨a', c', rfl, hown', hgrow, hblk⟩
/-- In place. -/
theorem ins_row {cur : Array Value} {ps : List Pr} {i cap : Nat} (p : Pr) (hs : cur.size = cap * 2) (ht : cur.toList.take (ps.length * 2) = pairsV ps) (hi : i ≤ ps.length) (hc : ps.length + 1 ≤ cap)
    {cur1 cur2 : Array Value} (h1 : cur1 = (cur.toList.take ((i + 1) * 2) ++ (pairsV ps).drop (i * 2) ++ cur.toList.drop ((i + 1) * 2 + ((pairsV ps).drop (i * 2)).length)).toArray)
    (h2 : cur2 = (cur1.toList.take (i * 2) ++ pairV p ++ cur1.toList.drop (i * 2 + (pairV p).length)).toArray) :
    cur1.size = cap * 2 ∧ cur2.size = cap * 2 ∧ cur2.toList.take ((ps.length + 1) * 2) = pairsV (insAt ps i p) := by
  have key := ins_shift cur.toList (pairsV ps) (pairV p) i ps.length 2 ht (pairsV_length ps) rfl hi (by rw [Array.length_toList (xs := cur), hs]; omega)
  simp only at key
  have g1 : (cur.toList.take ((i + 1) * 2) ++ (pairsV ps).drop (i * 2) ++ cur.toList.drop ((i + 1) * 2 + ((pairsV ps).drop (i * 2)).length)) = cur1.toList := by rw [h1]
  rw [g1] at key
  have g2 : (cur1.toList.take (i * 2) ++ pairV p ++ cur1.toList.drop (i * 2 + (pairV p).length)) = cur2.toList := by rw [h2]
  rw [g2] at key
  obtain ⟨e1, e2, e3⟩ := key
  have l0 : cur.toList.length = cap * 2 := by rw [Array.length_toList, hs]
  refine ⟨(Array.length_toList (xs := cur1)).symm.trans (e2.trans l0), (Array.length_toList (xs := cur2)).symm.trans (e3.trans l0), ?_⟩
  rw [e1, ← pairsV_take, ← pairsV_drop]
  unfold insAt
  rw [pairsV_append, List.append_assoc]
  rfl
theorem overlaps_apart (w : World) (vb g i la ca lb cb : Nat) (cv cur : Array Value) (tv tg : TypeId) (hne : vb ≠ g) (hv : w.heap[vb]? = some (.cells cv tv (0, 0))) (hg : w.heap[g]? = some (.cells cur tg (0, 0))) (hc : cur.size ≠ 0) :
    (callFunc 41 #[.slice (some ⟨vb, 0, none⟩) la ca, .slice (some ⟨g, i, none⟩) lb cb]).run Try.prog w = .ok (.value (.bool false)) w := by
  have hsa : w.shape? vb = some (tv, cv.size) := by simp [World.shape?, hv]
  have hsb : w.shape? g = some (tg, cur.size) := by simp [World.shape?, hg]
  rw [run_callFunc_extern (P := Try.prog) Try.func41 (by kernel_rfl) (by kernel_rfl) (by kernel_rfl) (e := Extern.SlicesOverlaps.overlaps #[55, 55] #[4]) (by kernel_rfl),
    Lib.run_overlaps_apart w 55 4 61 Try.underlying55 2 (fun w => by kernel_rfl) ⟨vb, 0, none⟩ ⟨g, i, none⟩ la ca lb cb hne tv tg _ _ hsa hsb hc (frozen_of_heap hv _) (frozen_of_heap hv _)]
  rfl
set_option maxHeartbeats 4000000 in
set_option maxRecDepth 100000 in
theorem ins_room (w : World) (base g c i : Nat) (cur : Array Value) (ps : List Pr) (vb : Nat) (p : Pr) (hb : base ≤ g) (hg : w.heap[g]? = some (.cells cur 61 (0, 0))) (hcm : c ≤ maxLen) (hsz : cur.size = c * 2) (htk : cur.toList.take (ps.length * 2) = pairsV ps)
    (hp : PairAt w vb p) (hne : vb ≠ g) (hl : ps.length ≤ 1000000) (hi : i < ps.length) (hroom : ps.length + 1 ≤ c) :
    Calls Try.prog 32 #[.slice (some ⟨g, 0, none⟩) ps.length c, .int .i64 i, .slice (some ⟨vb, 0, none⟩) 1 1] w (Inserted w base (.slice (some ⟨g, 0, none⟩) ps.length c) ps.length (pairsV (insAt ps i p))) := by
  have hgl := lt_of_heap hg
  have hov : ∀ la ca lb cb, (callFunc 41 #[.slice (some ⟨vb, 0, none⟩) la ca, .slice (some ⟨g, (i + 1) * 2, none⟩) lb cb]).run Try.prog w = .ok (.value (.bool false)) w := fun la ca lb cb => overlaps_apart w vb g _ la ca lb cb _ _ _ _ hne hp hg (by omega)
  have hdl : ((pairsV ps).drop (i * 2)).length = (ps.length - i) * 2 := by rw [List.length_drop, pairsV_length, Nat.sub_mul]
  obtain ⟨cur1, hcur1⟩ : ∃ c, c = (cur.toList.take ((i + 1) * 2) ++ (pairsV ps).drop (i * 2) ++ cur.toList.drop ((i + 1) * 2 + ((pairsV ps).drop (i * 2)).length)).toArray := ⟨_, rfl⟩
  obtain ⟨cur2, hcur2⟩ : ∃ c, c = (cur1.toList.take (i * 2) ++ pairV p ++ cur1.toList.drop (i * 2 + (pairV p).length)).toArray := ⟨_, rfl⟩
  obtain ⟨z1, z2, z3⟩ := ins_row p hsz htk (by omega) hroom hcur1 hcur2
  have hread : ∀ j v, ((pairsV ps).drop (i * 2))[j]? = some v → w.cell? ⟨g, i * 2 + j, none⟩ = some v := by
    intro j v hj
    rw [cell_of_heap hg]
    rw [List.getElem?_drop, ← htk, List.getElem?_take] at hj
    split at hj
    · rw [← Array.getElem?_toList]; exact hj
    · cases hj
  have hcp1 : ∀ ty dc sc, (Builtin.copy_ #[55, 55] ty #[.slice (some ⟨g, (i + 1) * 2, none⟩) (ps.length - i) dc, .slice (some ⟨g, i * 2, none⟩) (ps.length + 1 - i) sc]).run Try.prog w.drew = .ok (goInt ((ps.length - i : Nat) : Int)) (w.drew.setRow g cur1) := by
    intro ty dc sc
    rw [hcur1]
    exact run_copy_rowN w.drew _ _ ty 61 2 g ((i + 1) * 2) (ps.length - i) dc ⟨g, i * 2, none⟩ (ps.length + 1 - i) sc cur _ _ (ps.length - i) Try.underlying55 (by kernel_rfl) hg (by simp only [Nat.min_def]; split <;> omega) hdl (fun j v hj => by rw [Addr.add_lit]; exact hread j v hj) (by rw [hdl, hsz]; omega) (fun v hv => pairsV_one ps v (List.mem_of_mem_drop hv))
  obtain ⟨w1, ew1⟩ : ∃ w1, w1 = w.drew.setRow g cur1 := ⟨_, rfl⟩
  have hg1 : w1.heap[g]? = some (.cells cur1 61 (0, 0)) := by rw [ew1]; exact setRow_heap w.drew g cur _ _ _ hg
  have hp1 : PairAt w1 vb p := by
    unfold PairAt
    rw [ew1, setRow_other w.drew g vb _ hne]; exact hp
  rw [← ew1] at hcp1
  have hcp2 : ∀ ty dc, (Builtin.copy_ #[55, 55] ty #[.slice (some ⟨g, i * 2, none⟩) (ps.length + 1 - i) dc, .slice (some ⟨vb, 0, none⟩) 1 1]).run Try.prog w1 = .ok (goInt 1) (w1.setRow g cur2) := by
    intro ty dc
    rw [hcur2]
    exact run_copy_rowN w1 _ _ ty 61 2 g (i * 2) (ps.length + 1 - i) dc ⟨vb, 0, none⟩ 1 1 cur1 _ (pairV p) 1 Try.underlying55 (by kernel_rfl) hg1 (by simp only [Nat.min_def]; split <;> omega) rfl (fun j v hj => by
      rw [Addr.add_lit, Nat.zero_add]
      exact (cell_of_heap hp1 j).trans (by simpa [pairV] using hj)) (by rw [z1]; show i * 2 + 2 ≤ _; omega) (by intro u hu; simp [pairV] at hu; rcases hu with rfl | rfl <;> rfl)
  have HFIN : Hid ((w1.setRow g cur2).ownsRow base 61 2 (.slice (some ⟨g, 0, none⟩) (ps.length + 1) c) (ps.length + 1) (pairsV (insAt ps i p)) ∧ w.grownBy (w1.setRow g cur2) (some g)) := by
    refine ⟨⟨by rw [pairsV_length, insAt_length _ _ _ (by omega)], .inr ⟨g, c, cur2, rfl, hb, setRow_heap w1 g cur1 _ _ _ hg1, hroom, hcm, z2, z3⟩⟩, ?_⟩
    rw [ew1]
    exact ⟨rfl, rfl, rfl, by simp, fun k hk hne => by
      have hk' : k ≠ g := fun e => hne (by rw [e])
      rw [setRow_other _ g k _ hk']
      exact setRow_other w.drew g k _ hk'⟩
  clear ew1 hread hcur1 hcur2 z1 z2 z3 hsz htk hdl hg1 hp1 hg hp
  unfold maxLen at hcm
  have hw1 : IntKind.i64.wrap ((i : Int) + 1) = (i : Int) + 1 := by rw [IntKind.wrap_i64]; omega
  have hb1 : (0 : Int) ≤ (i : Int) + 1 := by omega
  have hin : i ≤ ps.length := by omega
  have htn : ((i : Int) + 1).toNat = i + 1 := by omega
  have hb2 : ¬ (c = i + 1) := by omega
  have hb3 : (i : Int) ≤ (ps.length : Int) + 1 := by omega
  have hb4 : ¬ (c = i) := by omega
  go_enter Try.func32, Try.ntmps32
  go_wp2_with (simp only [hov])
  go_region_law (refine step_copy_runI rfl _ _ 55 55 rfl _ _ (by simp [Act.eval, Act.put]) (by simp [Act.eval, Act.put]) (hcp1 _ _ _) ?_)
  go_wp2_with (at_builtin; refine wpList_copy_runI _ rfl _ _ 55 55 rfl _ _ rfl rfl (hcp2 _ _) ?_)
  go_ret
  exact ⟨_, _, rfl, HFIN.out.1, HFIN.out.2, .inl rfl⟩
end Go.Proofs.Ytipindjchcmckaa
