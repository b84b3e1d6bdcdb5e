/- DERIVED. Texts of this claim, put together: ShSIns, ShIIns, ShS, ShI, ShGet. -/
import Derived.Lib.Overlaps
import Derived.Laws.Externs
import Derived.Shelf.Spec.SlicesInsert
import Derived.Test.YtaagkndhgicifaaGreatSv02
namespace Go.Proofs.YtaagkndhgicifaaGreat
set_option maxHeartbeats 32000000
open Go.RowKit
set_option linter.unusedVariables false
theorem infoPairS : (Tryz.prog.info? 180).map (fun i => (i.zero, i.size, i.bytes)) = some (some (.agg #[.string ByteArray.empty, .pointer none]), 2, 24) := by kernel_rfl
def InsertedS (w : World) (base : Nat) (v : Value) (n : Nat) (xs : List Value) (e : Ending) (w' : World) : Prop :=
 ∃ a' c', e = .returned (.slice a' (n + 1) c') ∧ w'.ownsRow base 180 2 (.slice a' (n + 1) c') (n + 1) xs ∧ w.grownBy w' v.ownBlock ∧ ((Value.slice a' (n + 1) c').ownBlock = v.ownBlock ∨ (Value.slice a' (n + 1) c').ownBlock = some w.heap.size)
def PairAtS (w : World) (vb : Nat) (p : KV (List UInt8)) : Prop := w.heap[vb]? = some (.cells (rowV kStr p).toArray 180 (0, 0))
theorem PairAtS.src {w : World} {vb : Nat} {p : KV (List UInt8)} (hq1 : p.2.length + 1 = 2) (hq2 : ∀ u ∈ p.2, u.oneCell' = true) (h : PairAtS w vb p) : Src Tryz.prog 2 153 (.slice (some ⟨vb, 0, none⟩) 1 1) 1 (rowV kStr p) w := by
 refine Src.ofSlice w Tryz.underlying153 ⟨vb, 0, none⟩ 1 1 (rowV kStr p) (by rw [Nat.one_mul]; exact hq1) (fun j u hj => ?_) (rowV_one kStr hq2)
 rw [Addr.add_lit, Nat.zero_add, cOh h]
 simpa using hj
set_option maxRecDepth 100000 in
theorem ins_endS (w : World) (base : Nat) (a : Option Addr) (c : Nat) (ps : List (KV (List UInt8))) (vb : Nat) (p : KV (List UInt8)) (hown : w.ownsRow base 180 2 (.slice a ps.length c) ps.length (rowsV kStr ps)) (hp : PairAtS w vb p) (hb : base ≤ w.heap.size) (hl : ps.length ≤ 1000000) (hw : WidK 2 ps) (hq1 : p.2.length + 1 = 2) (hq2 : ∀ u ∈ p.2, u.oneCell' = true) :
  Calls Tryz.prog 135 #[.slice a ps.length c, .int .i64 ps.length, .slice (some ⟨vb, 0, none⟩) 1 1] w (InsertedS w base (.slice a ps.length c) ps.length (rowsV kStr ps ++ rowV kStr p)) := by
 obtain ⟨i0, hi, hz0, hz1, hz2⟩ := info_parts infoPairS
 have hsrc := hp.src hq1 hq2
 have hcap := owns_cap hown
 clear hp
 rcases (show c = ps.length ∨ c ≠ ps.length from by omega) with rfl | hne
 ·go_enter Tryz.func135, Tryz.ntmps135
  go_wp2_with (at_builtin; refine wpList_append_srcs rfl (.tmp 23) (.tmp 24) 153 153 rfl base 180 i0 _ 2 24 Tryz.underlying153 hi hz0 hz1 hz2 rfl (by decide) (.slice a ps.length ps.length) rfl _ _ hown _ rfl _ _ hsrc (by unfold maxLen; omega) (by omega) hb ?_; intro a' c' w' hown' hgrow _ hblk)
  go_ret
  exact ⟨a', c', rfl, hown', hgrow, hblk⟩
 ·go_enter Tryz.func135, Tryz.ntmps135
  go_wp2_with (at_builtin; refine wpList_append_srcs rfl (.tmp 23) (.tmp 24) 153 153 rfl base 180 i0 _ 2 24 Tryz.underlying153 hi hz0 hz1 hz2 rfl (by decide) (.slice a ps.length c) rfl _ _ hown _ rfl _ _ hsrc (by unfold maxLen; omega) (by omega) hb ?_; intro a' c' w' hown' hgrow _ hblk)
  go_ret
  exact ⟨a', c', rfl, hown', hgrow, hblk⟩
theorem ins_rowS {cur : Array Value} {ps : List (KV (List UInt8))} {i cap : Nat} (p : KV (List UInt8)) (hw : WidK 2 ps) (hq1 : p.2.length + 1 = 2) (hq2 : ∀ u ∈ p.2, u.oneCell' = true) (hs : cur.size = cap * 2) (ht : cur.toList.take (ps.length * 2) = rowsV kStr ps) (hi : i ≤ ps.length) (hc : ps.length + 1 ≤ cap)
  {cur1 cur2 : Array Value} (h1 : cur1 = (cur.toList.take ((i + 1) * 2) ++ (rowsV kStr ps).drop (i * 2) ++ cur.toList.drop ((i + 1) * 2 + ((rowsV kStr ps).drop (i * 2)).length)).toArray)
  (h2 : cur2 = (cur1.toList.take (i * 2) ++ rowV kStr p ++ cur1.toList.drop (i * 2 + (rowV kStr p).length)).toArray) :
  cur1.size = cap * 2 ∧ cur2.size = cap * 2 ∧ cur2.toList.take ((ps.length + 1) * 2) = rowsV kStr (insK ps i p) := by
 have key := ins_shift cur.toList (rowsV kStr ps) (rowV kStr p) i ps.length 2 ht (rowsV_length kStr hw) hq1 hi (by rw [Array.length_toList (xs := cur), hs]; omega)
 simp only at key
 have g1 : (cur.toList.take ((i + 1) * 2) ++ (rowsV kStr ps).drop (i * 2) ++ cur.toList.drop ((i + 1) * 2 + ((rowsV kStr ps).drop (i * 2)).length)) = cur1.toList := by rw [h1]
 rw [g1] at key
 have g2 : (cur1.toList.take (i * 2) ++ rowV kStr p ++ cur1.toList.drop (i * 2 + (rowV kStr p).length)) = cur2.toList := by rw [h2]
 rw [g2] at key
 obtain ⟨e1, e2, e3⟩ := key
 have l0 : cur.toList.length = cap * 2 := by rw [Array.length_toList, hs]
 refine ⟨(Array.length_toList (xs := cur1)).symm.trans (e2.trans l0), (Array.length_toList (xs := cur2)).symm.trans (e3.trans l0), ?_⟩
 rw [e1, rowsV_ins kStr hw]
theorem overlaps_apartS (w : World) (vb g i la ca lb cb : Nat) (cv cur : Array Value) (tv tg : TypeId) (hne : vb ≠ g) (hv : w.heap[vb]? = some (.cells cv tv (0, 0))) (hg : w.heap[g]? = some (.cells cur tg (0, 0))) (hc : cur.size ≠ 0) :
  (callFunc 172 #[.slice (some ⟨vb, 0, none⟩) la ca, .slice (some ⟨g, i, none⟩) lb cb]).run Tryz.prog w = .ok (.value (.bool false)) w := by
 have hsa : w.shape? vb = some (tv, cv.size) := by simp [World.shape?, hv]
 have hsb : w.shape? g = some (tg, cur.size) := by simp [World.shape?, hg]
 rw [run_callFunc_extern (P := Tryz.prog) Tryz.func172 (by kernel_rfl) (by kernel_rfl) (by kernel_rfl) (e := Extern.SlicesOverlaps.overlaps #[153, 153] #[4]) (by kernel_rfl),
  Lib.run_overlaps_apart w 153 4 180 Tryz.underlying153 2 (fun w => by kernel_rfl) ⟨vb, 0, none⟩ ⟨g, i, none⟩ la ca lb cb hne tv tg _ _ hsa hsb hc (foh hv _) (foh hv _)]
 rfl
set_option maxRecDepth 100000 in
theorem ins_roomS (w : World) (base g c i : Nat) (cur : Array Value) (ps : List (KV (List UInt8))) (vb : Nat) (p : KV (List UInt8)) (hb : base ≤ g) (hg : w.heap[g]? = some (.cells cur 180 (0, 0))) (hcm : c ≤ maxLen) (hsz : cur.size = c * 2) (htk : cur.toList.take (ps.length * 2) = rowsV kStr ps)
  (hp : PairAtS w vb p) (hne : vb ≠ g) (hl : ps.length ≤ 1000000) (hi : i < ps.length) (hroom : ps.length + 1 ≤ c) (hw : WidK 2 ps) (hq1 : p.2.length + 1 = 2) (hq2 : ∀ u ∈ p.2, u.oneCell' = true) :
  Calls Tryz.prog 135 #[.slice (some ⟨g, 0, none⟩) ps.length c, .int .i64 i, .slice (some ⟨vb, 0, none⟩) 1 1] w (InsertedS w base (.slice (some ⟨g, 0, none⟩) ps.length c) ps.length (rowsV kStr (insK ps i p))) := by
 have hgl := loh hg
 have hov : ∀ la ca lb cb, (callFunc 172 #[.slice (some ⟨vb, 0, none⟩) la ca, .slice (some ⟨g, (i + 1) * 2, none⟩) lb cb]).run Tryz.prog w = .ok (.value (.bool false)) w := fun la ca lb cb => overlaps_apartS w vb g _ la ca lb cb _ _ _ _ hne hp hg (by omega)
 have hdl : ((rowsV kStr ps).drop (i * 2)).length = (ps.length - i) * 2 := by rw [List.length_drop, rowsV_length kStr hw, Nat.sub_mul]
 obtain ⟨cur1, hcur1⟩ : ∃ c, c = (cur.toList.take ((i + 1) * 2) ++ (rowsV kStr ps).drop (i * 2) ++ cur.toList.drop ((i + 1) * 2 + ((rowsV kStr ps).drop (i * 2)).length)).toArray := ⟨_, rfl⟩
 obtain ⟨cur2, hcur2⟩ : ∃ c, c = (cur1.toList.take (i * 2) ++ rowV kStr p ++ cur1.toList.drop (i * 2 + (rowV kStr p).length)).toArray := ⟨_, rfl⟩
 obtain ⟨z1, z2, z3⟩ := ins_rowS p hw hq1 hq2 hsz htk (by omega) hroom hcur1 hcur2
 have hread : ∀ j v, ((rowsV kStr ps).drop (i * 2))[j]? = some v → w.cell? ⟨g, i * 2 + j, none⟩ = some v := by
  intro j v hj
  rw [cOh hg]
  rw [List.getElem?_drop, ← htk, List.getElem?_take] at hj
  split at hj
  ·rw [← Array.getElem?_toList]; exact hj
  ·cases hj
 have hcp1 : ∀ ty dc sc, (Builtin.copy_ #[153, 153] ty #[.slice (some ⟨g, (i + 1) * 2, none⟩) (ps.length - i) dc, .slice (some ⟨g, i * 2, none⟩) (ps.length + 1 - i) sc]).run Tryz.prog w.drew = .ok (goInt ((ps.length - i : Nat) : Int)) (w.drew.setRow g cur1) := by
  intro ty dc sc
  rw [hcur1]
  exact run_copy_rowN w.drew _ _ ty 180 2 g ((i + 1) * 2) (ps.length - i) dc ⟨g, i * 2, none⟩ (ps.length + 1 - i) sc cur _ _ (ps.length - i) Tryz.underlying153 (by kernel_rfl) hg (by simp only [Nat.min_def]; split <;> omega) hdl (fun j v hj => by rw [Addr.add_lit]; exact hread j v hj) (by rw [hdl, hsz]; omega) (fun v hv => rowsV_one kStr hw v (List.mem_of_mem_drop hv))
 obtain ⟨w1, ew1⟩ : ∃ w1, w1 = w.drew.setRow g cur1 := ⟨_, rfl⟩
 have hg1 : w1.heap[g]? = some (.cells cur1 180 (0, 0)) := by rw [ew1]; exact setRow_heap w.drew g cur _ _ _ hg
 have hp1 : PairAtS w1 vb p := by
  unfold PairAtS
  rw [ew1, setRow_other w.drew g vb _ hne]; exact hp
 rw [← ew1] at hcp1
 have hcp2 : ∀ ty dc, (Builtin.copy_ #[153, 153] ty #[.slice (some ⟨g, i * 2, none⟩) (ps.length + 1 - i) dc, .slice (some ⟨vb, 0, none⟩) 1 1]).run Tryz.prog w1 = .ok (goInt 1) (w1.setRow g cur2) := by
  intro ty dc
  rw [hcur2]
  exact run_copy_rowN w1 _ _ ty 180 2 g (i * 2) (ps.length + 1 - i) dc ⟨vb, 0, none⟩ 1 1 cur1 _ (rowV kStr p) 1 Tryz.underlying153 (by kernel_rfl) hg1 (by simp only [Nat.min_def]; split <;> omega) (by rw [Nat.one_mul]; exact hq1) (fun j v hj => by
   rw [Addr.add_lit, Nat.zero_add]
   exact (cOh hp1 j).trans (by simpa using hj)) (by rw [z1]; rw [show (rowV kStr p).length = 2 from hq1]; omega) (rowV_one kStr hq2)
 have HFIN : Hid ((w1.setRow g cur2).ownsRow base 180 2 (.slice (some ⟨g, 0, none⟩) (ps.length + 1) c) (ps.length + 1) (rowsV kStr (insK ps i p)) ∧ w.grownBy (w1.setRow g cur2) (some g)) := by
  refine ⟨⟨by rw [rowsV_length kStr (hw.ins hq1 hq2), insK_length _ _ _ (by omega)], .inr ⟨g, c, cur2, rfl, hb, setRow_heap w1 g cur1 _ _ _ hg1, hroom, hcm, z2, z3⟩⟩, ?_⟩
  rw [ew1]
  exact ⟨rfl, rfl, rfl, by simp, fun k hk hne => by
   have hk' : k ≠ g := fun e => hne (by rw [e])
   rw [setRow_other _ g k _ hk']
   exact setRow_other w.drew g k _ hk'⟩
 clear ew1 hread hcur1 hcur2 z1 z2 z3 hsz htk hdl hg1 hp1 hg hp
 unfold maxLen at hcm
 have hw1 : IntKind.i64.wrap ((i : Int) + 1) = (i : Int) + 1 := by rw [IntKind.wrap_i64]; omega
 have hb1 : (0 : Int) ≤ (i : Int) + 1 := by omega
 have hin : i ≤ ps.length := by omega
 have htn : ((i : Int) + 1).toNat = i + 1 := by omega
 have hb2 : ¬ (c = i + 1) := by omega
 have hb3 : (i : Int) ≤ (ps.length : Int) + 1 := by omega
 have hb4 : ¬ (c = i) := by omega
 go_enter Tryz.func135, Tryz.ntmps135
 go_wp2_with (simp only [hov])
 go_region_law (refine step_copy_runI rfl _ _ 153 153 rfl _ _ (by simp [Act.eval, Act.put]) (by simp [Act.eval, Act.put]) (hcp1 _ _ _) ?_)
 go_wp2_with (at_builtin; refine wpList_copy_runI _ rfl _ _ 153 153 rfl _ _ rfl rfl (hcp2 _ _) ?_)
 go_ret
 exact ⟨_, _, rfl, HFIN.out.1, HFIN.out.2, .inl rfl⟩
theorem grow_rowS {ps : List (KV (List UInt8))} {i G : Nat} (p : KV (List UInt8)) (hw : WidK 2 ps) (hq1 : p.2.length + 1 = 2) (hq2 : ∀ u ∈ p.2, u.oneCell' = true) (hi : i ≤ ps.length) (hG : ps.length + 1 ≤ G) (z r : Array Value) (hz : z.size = (ps.length + 1 - i) * 2) (hr : r.size = (G - (ps.length + 1)) * 2)
  {row row1 row2 : Array Value} (h0 : row = ((rowsV kStr ps).take (i * 2)).toArray ++ z ++ r) (h1 : row1 = (row.toList.take (i * 2) ++ rowV kStr p ++ row.toList.drop (i * 2 + (rowV kStr p).length)).toArray)
  (h2 : row2 = (row1.toList.take ((i + 1) * 2) ++ (rowsV kStr ps).drop (i * 2) ++ row1.toList.drop ((i + 1) * 2 + ((rowsV kStr ps).drop (i * 2)).length)).toArray) :
  row.size = G * 2 ∧ row1.size = G * 2 ∧ row2.size = G * 2 ∧ row2.toList.take ((ps.length + 1) * 2) = rowsV kStr (insK ps i p) := by
 have key := ins_grow z.toList r.toList (rowsV kStr ps) (rowV kStr p) i ps.length 2 (rowsV_length kStr hw) hq1 hi (by rw [Array.length_toList (xs := z)]; exact hz)
 simp only at key
 have g0 : ((rowsV kStr ps).take (i * 2) ++ z.toList ++ r.toList) = row.toList := by rw [h0]; simp
 rw [g0] at key
 have g1 : (row.toList.take (i * 2) ++ rowV kStr p ++ row.toList.drop (i * 2 + (rowV kStr p).length)) = row1.toList := by rw [h1]
 rw [g1] at key
 have g2 : (row1.toList.take ((i + 1) * 2) ++ (rowsV kStr ps).drop (i * 2) ++ row1.toList.drop ((i + 1) * 2 + ((rowsV kStr ps).drop (i * 2)).length)) = row2.toList := by rw [h2]
 rw [g2] at key
 obtain ⟨e1, e2, e3, e4⟩ := key
 have l0 : row.toList.length = G * 2 := by rw [e4, Array.length_toList (xs := r), hr]; omega
 refine ⟨(Array.length_toList (xs := row)).symm.trans l0, (Array.length_toList (xs := row1)).symm.trans (e2.trans l0), (Array.length_toList (xs := row2)).symm.trans (e3.trans l0), ?_⟩
 rw [e1, rowsV_ins kStr hw]
set_option maxRecDepth 100000 in
theorem ins_moreS (w : World) (base g c i : Nat) (cur : Array Value) (ps : List (KV (List UInt8))) (vb : Nat) (p : KV (List UInt8)) (hb : base ≤ w.heap.size) (hg : w.heap[g]? = some (.cells cur 180 (0, 0))) (hcm : c ≤ maxLen) (hsz : cur.size = c * 2) (htk : cur.toList.take (ps.length * 2) = rowsV kStr ps)
  (hp : PairAtS w vb p) (hne : vb ≠ g) (hl : ps.length ≤ 1000000) (hi : i < ps.length) (hle : ps.length ≤ c) (hroom : c < ps.length + 1) (hw : WidK 2 ps) (hq1 : p.2.length + 1 = 2) (hq2 : ∀ u ∈ p.2, u.oneCell' = true) :
  Calls Tryz.prog 135 #[.slice (some ⟨g, 0, none⟩) ps.length c, .int .i64 i, .slice (some ⟨vb, 0, none⟩) 1 1] w (InsertedS w base (.slice (some ⟨g, 0, none⟩) ps.length c) ps.length (rowsV kStr (insK ps i p))) := by
 have hgl := loh hg
 have hvl := loh hp
 obtain ⟨i0, hi0, hz0, hz1, hz2⟩ := info_parts infoPairS
 have hdl : ((rowsV kStr ps).drop (i * 2)).length = (ps.length - i) * 2 := by rw [List.length_drop, rowsV_length kStr hw, Nat.sub_mul]
 have hread : ∀ j v, (rowsV kStr ps)[j]? = some v → w.cell? ⟨g, j, none⟩ = some v := by
  intro j v hj
  rw [cOh hg]
  rw [← htk, List.getElem?_take] at hj
  split at hj
  ·rw [← Array.getElem?_toList]; exact hj
  ·cases hj
 have hold : (Builtin.firstCells i0.size i (.slice (some ⟨g, 0, none⟩) i c)).run Tryz.prog w.drew = .ok ((rowsV kStr ps).take (i * 2)).toArray w.drew := by
  rw [hz1]
  refine run_firstCells_some w.drew 2 i ⟨g, 0, none⟩ i c ((rowsV kStr ps).take (i * 2)) (by rw [List.length_take, rowsV_length kStr hw]; omega) (fun j v hj => ?_)
  rw [Addr.add_lit, Nat.zero_add]
  rw [List.getElem?_take] at hj
  split at hj
  ·exact hread j v hj
  ·cases hj
 obtain ⟨Z, hZ⟩ : ∃ Z, Z = Builtin.zeroCells (Value.agg #[Value.string ByteArray.empty, Value.pointer none]).cells (ps.length + 1 - i) := ⟨_, rfl⟩
 obtain ⟨G, hG⟩ : ∃ G, G = grownCap w (ps.length + 1) c 180 := ⟨_, rfl⟩
 obtain ⟨R, hR⟩ : ∃ R, R = Builtin.zeroCells (Value.agg #[Value.string ByteArray.empty, Value.pointer none]).cells (G - (ps.length + 1)) := ⟨_, rfl⟩
 have hrz : ∀ ty, (Builtin.append_ #[153, 3] ty #[.slice (some ⟨g, 0, none⟩) i c, .int .i64 ((ps.length : Int) + 1 - (i : Int))]).run Tryz.prog w =
   .ok (.slice (some ⟨w.heap.size, 0, none⟩) (ps.length + 1) G) (w.drew.alloc (.cells (((rowsV kStr ps).take (i * 2)).toArray ++ Z ++ R) 180)) := fun ty => by
  have h := Lib.run_append_grow_zeros (P := Tryz.prog) w 153 3 ty 180 i0 _ .i64 .i64 Tryz.underlying153 Tryz.underlying3 hi0 hz0 (some ⟨g, 0, none⟩) i c ((rowsV kStr ps).take (i * 2)) hold (ps.length + 1 - i) (by omega) (by omega) (by omega) (by omega) (by rw [hz2]; omega) (by rw [hz2, show i + (ps.length + 1 - i) = ps.length + 1 from by omega]; exact growslice_fits hroom (by omega))
  rw [show i + (ps.length + 1 - i) = ps.length + 1 from by omega, ← hG, ← hZ, ← hR] at h
  rw [show (ps.length : Int) + 1 - (i : Int) = ((ps.length + 1 - i : Nat) : Int) from by omega]
  exact h
 have hGn : ps.length + 1 ≤ G := by rw [hG]; exact grownCap_ge w _ _ _
 have hG63 : G ≤ 9223372036854775807 := by
  have := grownCap_le_maxLen w (ps.length + 1) c 180 (by unfold maxLen; omega)
  rw [← hG] at this
  unfold maxLen at this
  omega
 obtain ⟨row, hrow⟩ : ∃ r, r = ((rowsV kStr ps).take (i * 2)).toArray ++ Z ++ R := ⟨_, rfl⟩
 obtain ⟨row1, hrow1⟩ : ∃ c, c = (row.toList.take (i * 2) ++ rowV kStr p ++ row.toList.drop (i * 2 + (rowV kStr p).length)).toArray := ⟨_, rfl⟩
 obtain ⟨row2, hrow2⟩ : ∃ c, c = (row1.toList.take ((i + 1) * 2) ++ (rowsV kStr ps).drop (i * 2) ++ row1.toList.drop ((i + 1) * 2 + ((rowsV kStr ps).drop (i * 2)).length)).toArray := ⟨_, rfl⟩
 obtain ⟨z0, z1, z2, z3⟩ := grow_rowS p hw hq1 hq2 (Nat.le_of_lt hi) hGn Z R (by rw [hZ, size_zeroCells]; rfl) (by rw [hR, size_zeroCells]; rfl) hrow hrow1 hrow2
 rw [← hrow] at hrz
 obtain ⟨wa, ewa⟩ : ∃ wa, wa = w.drew.alloc (.cells row 180) := ⟨_, rfl⟩
 rw [← ewa] at hrz
 have hga : wa.heap[w.heap.size]? = some (.cells row 180 (0, 0)) := by rw [ewa]; exact heap_alloc_new w.drew _
 have hpa : PairAtS wa vb p := by unfold PairAtS; rw [ewa]; exact (Below.heap_alloc w.drew _ vb hvl).trans hp
 have hcp1 : ∀ ty dc, (Builtin.copy_ #[153, 153] ty #[.slice (some ⟨w.heap.size, i * 2, none⟩) (ps.length + 1 - i) dc, .slice (some ⟨vb, 0, none⟩) 1 1]).run Tryz.prog wa = .ok (goInt 1) (wa.setRow w.heap.size row1) := by
  intro ty dc
  rw [hrow1]
  exact run_copy_rowN wa _ _ ty 180 2 w.heap.size (i * 2) (ps.length + 1 - i) dc ⟨vb, 0, none⟩ 1 1 row _ (rowV kStr p) 1 Tryz.underlying153 (by kernel_rfl) hga (by simp only [Nat.min_def]; split <;> omega) (by rw [Nat.one_mul]; exact hq1) (fun j v hj => by
   rw [Addr.add_lit, Nat.zero_add]
   exact (cOh hpa j).trans (by simpa using hj)) (by rw [z0]; rw [show (rowV kStr p).length = 2 from hq1]; omega) (rowV_one kStr hq2)
 obtain ⟨w1, ew1⟩ : ∃ w1, w1 = wa.setRow w.heap.size row1 := ⟨_, rfl⟩
 have hg1 : w1.heap[w.heap.size]? = some (.cells row1 180 (0, 0)) := by rw [ew1]; exact setRow_heap wa _ row _ _ _ hga
 have hr1 : ∀ j v, (rowsV kStr ps)[j]? = some v → w1.drew.cell? ⟨g, j, none⟩ = some v := by
  intro j v hj
  have : w1.heap[g]? = w.heap[g]? := by
   rw [ew1, setRow_other wa w.heap.size g _ (by omega), ewa]
   exact Below.heap_alloc w.drew _ g hgl
  rw [← hread j v hj]
  exact World.cell?_of_block (a := ⟨g, j, none⟩) this
 rw [← ew1] at hcp1
 have hcp2 : ∀ ty dc sc, (Builtin.copy_ #[153, 153] ty #[.slice (some ⟨w.heap.size, (i + 1) * 2, none⟩) (ps.length - i) dc, .slice (some ⟨g, i * 2, none⟩) (ps.length - i) sc]).run Tryz.prog w1.drew = .ok (goInt ((ps.length - i : Nat) : Int)) (w1.drew.setRow w.heap.size row2) := by
  intro ty dc sc
  rw [hrow2]
  exact run_copy_rowN w1.drew _ _ ty 180 2 w.heap.size ((i + 1) * 2) (ps.length - i) dc ⟨g, i * 2, none⟩ (ps.length - i) sc row1 _ _ (ps.length - i) Tryz.underlying153 (by kernel_rfl) hg1 (by simp only [Nat.min_def]; split <;> omega) hdl (fun j v hj => by rw [Addr.add_lit]; exact hr1 _ v (by rwa [List.getElem?_drop] at hj)) (by rw [hdl, z1]; omega) (fun v hv => rowsV_one kStr hw v (List.mem_of_mem_drop hv))
 have HFIN : Hid ((w1.drew.setRow w.heap.size row2).ownsRow base 180 2 (.slice (some ⟨w.heap.size, 0, none⟩) (ps.length + 1) G) (ps.length + 1) (rowsV kStr (insK ps i p)) ∧ w.grownBy (w1.drew.setRow w.heap.size row2) (some g)) := by
  refine ⟨⟨by rw [rowsV_length kStr (hw.ins hq1 hq2), insK_length _ _ _ (by omega)], .inr ⟨w.heap.size, G, row2, rfl, hb, setRow_heap w1.drew _ row1 _ _ _ hg1, hGn, by unfold maxLen; omega, z2, z3⟩⟩, ?_⟩
  rw [ew1, ewa]
  exact ⟨rfl, rfl, rfl, by simp, fun k hk hne => by
   rw [setRow_other _ _ k _ (by omega)]
   show ((w.drew.alloc _).setRow _ _).heap[k]? = _
   rw [setRow_other _ _ k _ (by omega)]
   exact Below.heap_alloc w.drew _ k hk⟩
 have hw1 : IntKind.i64.wrap ((i : Int) + 1) = (i : Int) + 1 := by rw [IntKind.wrap_i64]; omega
 have hb1 : (0 : Int) ≤ (i : Int) + 1 := by omega
 have hin : i ≤ ps.length := by omega
 have htn : ((i : Int) + 1).toNat = i + 1 := by omega
 have hb3 : (i : Int) ≤ (ps.length : Int) + 1 := by omega
 have hb2 : ¬ (G = i + 1) := by omega
 have hb5 : ¬ (G = i) := by omega
 have hb4 : ¬ (c = i) := by omega
 have hz3 : (c : Int) < (ps.length : Int) + 1 := by omega
 clear ew1 ewa hrow hrow1 hrow2 hread hold hZ hG hR z0 z1 z2 z3 hsz htk hdl hg1 hga hpa hr1 hg hp hi0 hz0 hz1 hz2
 unfold maxLen at hcm
 go_enter Tryz.func135, Tryz.ntmps135
 go_wp2_with (first
  | (at_builtin; refine Lib.wpList_append_run _ rfl _ _ _ _ rfl _ _ rfl rfl _ _ (hrz _) ?_)
  | (at_builtin; refine wpList_copy_runI _ rfl _ _ 153 153 rfl _ _ rfl rfl (hcp1 _ _) ?_))
 go_region_law (refine step_copy_runI rfl _ _ 153 153 rfl _ _ (by simp [Act.eval, Act.put]) (by simp [Act.eval, Act.put]) (hcp2 _ _ _) ?_)
 go_wp2
 go_ret
 exact ⟨_, _, rfl, HFIN.out.1, HFIN.out.2, .inr rfl⟩
theorem ins_anyS (w : World) (base : Nat) (a : Option Addr) (c i : Nat) (ps : List (KV (List UInt8))) (vb : Nat) (p : KV (List UInt8)) (hown : w.ownsRow base 180 2 (.slice a ps.length c) ps.length (rowsV kStr ps)) (hp : PairAtS w vb p) (hne : (Value.slice a ps.length c).ownBlock ≠ some vb) (hb : base ≤ w.heap.size) (hl : ps.length ≤ 1000000) (hi : i ≤ ps.length) (hw : WidK 2 ps) (hq1 : p.2.length + 1 = 2) (hq2 : ∀ u ∈ p.2, u.oneCell' = true) :
  Calls Tryz.prog 135 #[.slice a ps.length c, .int .i64 i, .slice (some ⟨vb, 0, none⟩) 1 1] w (InsertedS w base (.slice a ps.length c) ps.length (rowsV kStr (insK ps i p))) := by
 rcases Nat.lt_or_eq_of_le hi with hlt | rfl
 ·rcases hown.2 with ⟨_, e⟩ | ⟨g, cap, cur, e, h1, h2, h3, h4, h5, h6⟩
  ·omega
  ·obtain ⟨rfl, _, rfl⟩ := Value.slice.inj e
   have hvg : vb ≠ g := fun e => hne (by simp [Value.ownBlock, e])
   rcases Nat.lt_or_ge c (ps.length + 1) with hr | hr
   ·exact ins_moreS w base g c i cur ps vb p hb h2 h4 h5 h6 hp hvg hl hlt h3 hr hw hq1 hq2
   ·exact ins_roomS w base g c i cur ps vb p h1 h2 h4 h5 h6 hp hvg hl hlt hr hw hq1 hq2
 ·have := ins_endS w base a c ps vb p hown hp hb hl hw hq1 hq2
  rw [show rowsV kStr ps ++ rowV kStr p = rowsV kStr (insK ps ps.length p) from by unfold insK; rw [List.take_length, List.drop_length, rowsV_append]; simp [rowsV]] at this
  exact this
theorem infoPairI : (Tryz.prog.info? 185).map (fun i => (i.zero, i.size, i.bytes)) = some (some (.agg #[.int .i64 0, .bool false, .string ByteArray.empty, .int .i64 0, .int .i64 0, .int .i64 0, .string ByteArray.empty, .slice none 0 0, .slice none 0 0, .slice none 0 0]), 10, 144) := by kernel_rfl
def InsertedI (w : World) (base : Nat) (v : Value) (n : Nat) (xs : List Value) (e : Ending) (w' : World) : Prop :=
 ∃ a' c', e = .returned (.slice a' (n + 1) c') ∧ w'.ownsRow base 185 10 (.slice a' (n + 1) c') (n + 1) xs ∧ w.grownBy w' v.ownBlock ∧ ((Value.slice a' (n + 1) c').ownBlock = v.ownBlock ∨ (Value.slice a' (n + 1) c').ownBlock = some w.heap.size)
def PairAtI (w : World) (vb : Nat) (p : KV (Int)) : Prop := w.heap[vb]? = some (.cells (rowV kInt p).toArray 185 (0, 0))
theorem PairAtI.src {w : World} {vb : Nat} {p : KV (Int)} (hq1 : p.2.length + 1 = 10) (hq2 : ∀ u ∈ p.2, u.oneCell' = true) (h : PairAtI w vb p) : Src Tryz.prog 10 182 (.slice (some ⟨vb, 0, none⟩) 1 1) 1 (rowV kInt p) w := by
 refine Src.ofSlice w Tryz.underlying182 ⟨vb, 0, none⟩ 1 1 (rowV kInt p) (by rw [Nat.one_mul]; exact hq1) (fun j u hj => ?_) (rowV_one kInt hq2)
 rw [Addr.add_lit, Nat.zero_add, cOh h]
 simpa using hj
set_option maxRecDepth 100000 in
theorem ins_endI (w : World) (base : Nat) (a : Option Addr) (c : Nat) (ps : List (KV (Int))) (vb : Nat) (p : KV (Int)) (hown : w.ownsRow base 185 10 (.slice a ps.length c) ps.length (rowsV kInt ps)) (hp : PairAtI w vb p) (hb : base ≤ w.heap.size) (hl : ps.length ≤ 1000000) (hw : WidK 10 ps) (hq1 : p.2.length + 1 = 10) (hq2 : ∀ u ∈ p.2, u.oneCell' = true) :
  Calls Tryz.prog 137 #[.slice a ps.length c, .int .i64 ps.length, .slice (some ⟨vb, 0, none⟩) 1 1] w (InsertedI w base (.slice a ps.length c) ps.length (rowsV kInt ps ++ rowV kInt p)) := by
 obtain ⟨i0, hi, hz0, hz1, hz2⟩ := info_parts infoPairI
 have hsrc := hp.src hq1 hq2
 have hcap := owns_cap hown
 clear hp
 rcases (show c = ps.length ∨ c ≠ ps.length from by omega) with rfl | hne
 ·go_enter Tryz.func137, Tryz.ntmps137
  go_wp2_with (at_builtin; refine wpList_append_srcs rfl (.tmp 23) (.tmp 24) 182 182 rfl base 185 i0 _ 10 144 Tryz.underlying182 hi hz0 hz1 hz2 rfl (by decide) (.slice a ps.length ps.length) rfl _ _ hown _ rfl _ _ hsrc (by unfold maxLen; omega) (by omega) hb ?_; intro a' c' w' hown' hgrow _ hblk)
  go_ret
  exact ⟨a', c', rfl, hown', hgrow, hblk⟩
 ·go_enter Tryz.func137, Tryz.ntmps137
  go_wp2_with (at_builtin; refine wpList_append_srcs rfl (.tmp 23) (.tmp 24) 182 182 rfl base 185 i0 _ 10 144 Tryz.underlying182 hi hz0 hz1 hz2 rfl (by decide) (.slice a ps.length c) rfl _ _ hown _ rfl _ _ hsrc (by unfold maxLen; omega) (by omega) hb ?_; intro a' c' w' hown' hgrow _ hblk)
  go_ret
  exact ⟨a', c', rfl, hown', hgrow, hblk⟩
theorem ins_rowI {cur : Array Value} {ps : List (KV (Int))} {i cap : Nat} (p : KV (Int)) (hw : WidK 10 ps) (hq1 : p.2.length + 1 = 10) (hq2 : ∀ u ∈ p.2, u.oneCell' = true) (hs : cur.size = cap * 10) (ht : cur.toList.take (ps.length * 10) = rowsV kInt ps) (hi : i ≤ ps.length) (hc : ps.length + 1 ≤ cap)
  {cur1 cur2 : Array Value} (h1 : cur1 = (cur.toList.take ((i + 1) * 10) ++ (rowsV kInt ps).drop (i * 10) ++ cur.toList.drop ((i + 1) * 10 + ((rowsV kInt ps).drop (i * 10)).length)).toArray)
  (h2 : cur2 = (cur1.toList.take (i * 10) ++ rowV kInt p ++ cur1.toList.drop (i * 10 + (rowV kInt p).length)).toArray) :
  cur1.size = cap * 10 ∧ cur2.size = cap * 10 ∧ cur2.toList.take ((ps.length + 1) * 10) = rowsV kInt (insK ps i p) := by
 have key := ins_shift cur.toList (rowsV kInt ps) (rowV kInt p) i ps.length 10 ht (rowsV_length kInt hw) hq1 hi (by rw [Array.length_toList (xs := cur), hs]; omega)
 simp only at key
 have g1 : (cur.toList.take ((i + 1) * 10) ++ (rowsV kInt ps).drop (i * 10) ++ cur.toList.drop ((i + 1) * 10 + ((rowsV kInt ps).drop (i * 10)).length)) = cur1.toList := by rw [h1]
 rw [g1] at key
 have g2 : (cur1.toList.take (i * 10) ++ rowV kInt p ++ cur1.toList.drop (i * 10 + (rowV kInt p).length)) = cur2.toList := by rw [h2]
 rw [g2] at key
 obtain ⟨e1, e2, e3⟩ := key
 have l0 : cur.toList.length = cap * 10 := by rw [Array.length_toList, hs]
 refine ⟨(Array.length_toList (xs := cur1)).symm.trans (e2.trans l0), (Array.length_toList (xs := cur2)).symm.trans (e3.trans l0), ?_⟩
 rw [e1, rowsV_ins kInt hw]
theorem overlaps_apartI (w : World) (vb g i la ca lb cb : Nat) (cv cur : Array Value) (tv tg : TypeId) (hne : vb ≠ g) (hv : w.heap[vb]? = some (.cells cv tv (0, 0))) (hg : w.heap[g]? = some (.cells cur tg (0, 0))) (hc : cur.size ≠ 0) :
  (callFunc 176 #[.slice (some ⟨vb, 0, none⟩) la ca, .slice (some ⟨g, i, none⟩) lb cb]).run Tryz.prog w = .ok (.value (.bool false)) w := by
 have hsa : w.shape? vb = some (tv, cv.size) := by simp [World.shape?, hv]
 have hsb : w.shape? g = some (tg, cur.size) := by simp [World.shape?, hg]
 rw [run_callFunc_extern (P := Tryz.prog) Tryz.func176 (by kernel_rfl) (by kernel_rfl) (by kernel_rfl) (e := Extern.SlicesOverlaps.overlaps #[182, 182] #[4]) (by kernel_rfl),
  Lib.run_overlaps_apart w 182 4 185 Tryz.underlying182 10 (fun w => by kernel_rfl) ⟨vb, 0, none⟩ ⟨g, i, none⟩ la ca lb cb hne tv tg _ _ hsa hsb hc (foh hv _) (foh hv _)]
 rfl
set_option maxRecDepth 100000 in
theorem ins_roomI (w : World) (base g c i : Nat) (cur : Array Value) (ps : List (KV (Int))) (vb : Nat) (p : KV (Int)) (hb : base ≤ g) (hg : w.heap[g]? = some (.cells cur 185 (0, 0))) (hcm : c ≤ maxLen) (hsz : cur.size = c * 10) (htk : cur.toList.take (ps.length * 10) = rowsV kInt ps)
  (hp : PairAtI w vb p) (hne : vb ≠ g) (hl : ps.length ≤ 1000000) (hi : i < ps.length) (hroom : ps.length + 1 ≤ c) (hw : WidK 10 ps) (hq1 : p.2.length + 1 = 10) (hq2 : ∀ u ∈ p.2, u.oneCell' = true) :
  Calls Tryz.prog 137 #[.slice (some ⟨g, 0, none⟩) ps.length c, .int .i64 i, .slice (some ⟨vb, 0, none⟩) 1 1] w (InsertedI w base (.slice (some ⟨g, 0, none⟩) ps.length c) ps.length (rowsV kInt (insK ps i p))) := by
 have hgl := loh hg
 have hov : ∀ la ca lb cb, (callFunc 176 #[.slice (some ⟨vb, 0, none⟩) la ca, .slice (some ⟨g, (i + 1) * 10, none⟩) lb cb]).run Tryz.prog w = .ok (.value (.bool false)) w := fun la ca lb cb => overlaps_apartI w vb g _ la ca lb cb _ _ _ _ hne hp hg (by omega)
 have hdl : ((rowsV kInt ps).drop (i * 10)).length = (ps.length - i) * 10 := by rw [List.length_drop, rowsV_length kInt hw, Nat.sub_mul]
 obtain ⟨cur1, hcur1⟩ : ∃ c, c = (cur.toList.take ((i + 1) * 10) ++ (rowsV kInt ps).drop (i * 10) ++ cur.toList.drop ((i + 1) * 10 + ((rowsV kInt ps).drop (i * 10)).length)).toArray := ⟨_, rfl⟩
 obtain ⟨cur2, hcur2⟩ : ∃ c, c = (cur1.toList.take (i * 10) ++ rowV kInt p ++ cur1.toList.drop (i * 10 + (rowV kInt p).length)).toArray := ⟨_, rfl⟩
 obtain ⟨z1, z2, z3⟩ := ins_rowI p hw hq1 hq2 hsz htk (by omega) hroom hcur1 hcur2
 have hread : ∀ j v, ((rowsV kInt ps).drop (i * 10))[j]? = some v → w.cell? ⟨g, i * 10 + j, none⟩ = some v := by
  intro j v hj
  rw [cOh hg]
  rw [List.getElem?_drop, ← htk, List.getElem?_take] at hj
  split at hj
  ·rw [← Array.getElem?_toList]; exact hj
  ·cases hj
 have hcp1 : ∀ ty dc sc, (Builtin.copy_ #[182, 182] ty #[.slice (some ⟨g, (i + 1) * 10, none⟩) (ps.length - i) dc, .slice (some ⟨g, i * 10, none⟩) (ps.length + 1 - i) sc]).run Tryz.prog w.drew = .ok (goInt ((ps.length - i : Nat) : Int)) (w.drew.setRow g cur1) := by
  intro ty dc sc
  rw [hcur1]
  exact run_copy_rowN w.drew _ _ ty 185 10 g ((i + 1) * 10) (ps.length - i) dc ⟨g, i * 10, none⟩ (ps.length + 1 - i) sc cur _ _ (ps.length - i) Tryz.underlying182 (by kernel_rfl) hg (by simp only [Nat.min_def]; split <;> omega) hdl (fun j v hj => by rw [Addr.add_lit]; exact hread j v hj) (by rw [hdl, hsz]; omega) (fun v hv => rowsV_one kInt hw v (List.mem_of_mem_drop hv))
 obtain ⟨w1, ew1⟩ : ∃ w1, w1 = w.drew.setRow g cur1 := ⟨_, rfl⟩
 have hg1 : w1.heap[g]? = some (.cells cur1 185 (0, 0)) := by rw [ew1]; exact setRow_heap w.drew g cur _ _ _ hg
 have hp1 : PairAtI w1 vb p := by
  unfold PairAtI
  rw [ew1, setRow_other w.drew g vb _ hne]; exact hp
 rw [← ew1] at hcp1
 have hcp2 : ∀ ty dc, (Builtin.copy_ #[182, 182] ty #[.slice (some ⟨g, i * 10, none⟩) (ps.length + 1 - i) dc, .slice (some ⟨vb, 0, none⟩) 1 1]).run Tryz.prog w1 = .ok (goInt 1) (w1.setRow g cur2) := by
  intro ty dc
  rw [hcur2]
  exact run_copy_rowN w1 _ _ ty 185 10 g (i * 10) (ps.length + 1 - i) dc ⟨vb, 0, none⟩ 1 1 cur1 _ (rowV kInt p) 1 Tryz.underlying182 (by kernel_rfl) hg1 (by simp only [Nat.min_def]; split <;> omega) (by rw [Nat.one_mul]; exact hq1) (fun j v hj => by
   rw [Addr.add_lit, Nat.zero_add]
   exact (cOh hp1 j).trans (by simpa using hj)) (by rw [z1]; rw [show (rowV kInt p).length = 10 from hq1]; omega) (rowV_one kInt hq2)
 have HFIN : Hid ((w1.setRow g cur2).ownsRow base 185 10 (.slice (some ⟨g, 0, none⟩) (ps.length + 1) c) (ps.length + 1) (rowsV kInt (insK ps i p)) ∧ w.grownBy (w1.setRow g cur2) (some g)) := by
  refine ⟨⟨by rw [rowsV_length kInt (hw.ins hq1 hq2), insK_length _ _ _ (by omega)], .inr ⟨g, c, cur2, rfl, hb, setRow_heap w1 g cur1 _ _ _ hg1, hroom, hcm, z2, z3⟩⟩, ?_⟩
  rw [ew1]
  exact ⟨rfl, rfl, rfl, by simp, fun k hk hne => by
   have hk' : k ≠ g := fun e => hne (by rw [e])
   rw [setRow_other _ g k _ hk']
   exact setRow_other w.drew g k _ hk'⟩
 clear ew1 hread hcur1 hcur2 z1 z2 z3 hsz htk hdl hg1 hp1 hg hp
 unfold maxLen at hcm
 have hw1 : IntKind.i64.wrap ((i : Int) + 1) = (i : Int) + 1 := by rw [IntKind.wrap_i64]; omega
 have hb1 : (0 : Int) ≤ (i : Int) + 1 := by omega
 have hin : i ≤ ps.length := by omega
 have htn : ((i : Int) + 1).toNat = i + 1 := by omega
 have hb2 : ¬ (c = i + 1) := by omega
 have hb3 : (i : Int) ≤ (ps.length : Int) + 1 := by omega
 have hb4 : ¬ (c = i) := by omega
 go_enter Tryz.func137, Tryz.ntmps137
 go_wp2_with (simp only [hov])
 go_region_law (refine step_copy_runI rfl _ _ 182 182 rfl _ _ (by simp [Act.eval, Act.put]) (by simp [Act.eval, Act.put]) (hcp1 _ _ _) ?_)
 go_wp2_with (at_builtin; refine wpList_copy_runI _ rfl _ _ 182 182 rfl _ _ rfl rfl (hcp2 _ _) ?_)
 go_ret
 exact ⟨_, _, rfl, HFIN.out.1, HFIN.out.2, .inl rfl⟩
theorem grow_rowI {ps : List (KV (Int))} {i G : Nat} (p : KV (Int)) (hw : WidK 10 ps) (hq1 : p.2.length + 1 = 10) (hq2 : ∀ u ∈ p.2, u.oneCell' = true) (hi : i ≤ ps.length) (hG : ps.length + 1 ≤ G) (z r : Array Value) (hz : z.size = (ps.length + 1 - i) * 10) (hr : r.size = (G - (ps.length + 1)) * 10)
  {row row1 row2 : Array Value} (h0 : row = ((rowsV kInt ps).take (i * 10)).toArray ++ z ++ r) (h1 : row1 = (row.toList.take (i * 10) ++ rowV kInt p ++ row.toList.drop (i * 10 + (rowV kInt p).length)).toArray)
  (h2 : row2 = (row1.toList.take ((i + 1) * 10) ++ (rowsV kInt ps).drop (i * 10) ++ row1.toList.drop ((i + 1) * 10 + ((rowsV kInt ps).drop (i * 10)).length)).toArray) :
  row.size = G * 10 ∧ row1.size = G * 10 ∧ row2.size = G * 10 ∧ row2.toList.take ((ps.length + 1) * 10) = rowsV kInt (insK ps i p) := by
 have key := ins_grow z.toList r.toList (rowsV kInt ps) (rowV kInt p) i ps.length 10 (rowsV_length kInt hw) hq1 hi (by rw [Array.length_toList (xs := z)]; exact hz)
 simp only at key
 have g0 : ((rowsV kInt ps).take (i * 10) ++ z.toList ++ r.toList) = row.toList := by rw [h0]; simp
 rw [g0] at key
 have g1 : (row.toList.take (i * 10) ++ rowV kInt p ++ row.toList.drop (i * 10 + (rowV kInt p).length)) = row1.toList := by rw [h1]
 rw [g1] at key
 have g2 : (row1.toList.take ((i + 1) * 10) ++ (rowsV kInt ps).drop (i * 10) ++ row1.toList.drop ((i + 1) * 10 + ((rowsV kInt ps).drop (i * 10)).length)) = row2.toList := by rw [h2]
 rw [g2] at key
 obtain ⟨e1, e2, e3, e4⟩ := key
 have l0 : row.toList.length = G * 10 := by rw [e4, Array.length_toList (xs := r), hr]; omega
 refine ⟨(Array.length_toList (xs := row)).symm.trans l0, (Array.length_toList (xs := row1)).symm.trans (e2.trans l0), (Array.length_toList (xs := row2)).symm.trans (e3.trans l0), ?_⟩
 rw [e1, rowsV_ins kInt hw]
set_option maxRecDepth 100000 in
theorem ins_moreI (w : World) (base g c i : Nat) (cur : Array Value) (ps : List (KV (Int))) (vb : Nat) (p : KV (Int)) (hb : base ≤ w.heap.size) (hg : w.heap[g]? = some (.cells cur 185 (0, 0))) (hcm : c ≤ maxLen) (hsz : cur.size = c * 10) (htk : cur.toList.take (ps.length * 10) = rowsV kInt ps)
  (hp : PairAtI w vb p) (hne : vb ≠ g) (hl : ps.length ≤ 1000000) (hi : i < ps.length) (hle : ps.length ≤ c) (hroom : c < ps.length + 1) (hw : WidK 10 ps) (hq1 : p.2.length + 1 = 10) (hq2 : ∀ u ∈ p.2, u.oneCell' = true) :
  Calls Tryz.prog 137 #[.slice (some ⟨g, 0, none⟩) ps.length c, .int .i64 i, .slice (some ⟨vb, 0, none⟩) 1 1] w (InsertedI w base (.slice (some ⟨g, 0, none⟩) ps.length c) ps.length (rowsV kInt (insK ps i p))) := by
 have hgl := loh hg
 have hvl := loh hp
 obtain ⟨i0, hi0, hz0, hz1, hz2⟩ := info_parts infoPairI
 have hdl : ((rowsV kInt ps).drop (i * 10)).length = (ps.length - i) * 10 := by rw [List.length_drop, rowsV_length kInt hw, Nat.sub_mul]
 have hread : ∀ j v, (rowsV kInt ps)[j]? = some v → w.cell? ⟨g, j, none⟩ = some v := by
  intro j v hj
  rw [cOh hg]
  rw [← htk, List.getElem?_take] at hj
  split at hj
  ·rw [← Array.getElem?_toList]; exact hj
  ·cases hj
 have hold : (Builtin.firstCells i0.size i (.slice (some ⟨g, 0, none⟩) i c)).run Tryz.prog w.drew = .ok ((rowsV kInt ps).take (i * 10)).toArray w.drew := by
  rw [hz1]
  refine run_firstCells_some w.drew 10 i ⟨g, 0, none⟩ i c ((rowsV kInt ps).take (i * 10)) (by rw [List.length_take, rowsV_length kInt hw]; omega) (fun j v hj => ?_)
  rw [Addr.add_lit, Nat.zero_add]
  rw [List.getElem?_take] at hj
  split at hj
  ·exact hread j v hj
  ·cases hj
 obtain ⟨Z, hZ⟩ : ∃ Z, Z = Builtin.zeroCells (Value.agg #[Value.int .i64 0, Value.bool false, Value.string ByteArray.empty, Value.int .i64 0, Value.int .i64 0, Value.int .i64 0, Value.string ByteArray.empty, Value.slice none 0 0, Value.slice none 0 0, Value.slice none 0 0]).cells (ps.length + 1 - i) := ⟨_, rfl⟩
 obtain ⟨G, hG⟩ : ∃ G, G = grownCap w (ps.length + 1) c 185 := ⟨_, rfl⟩
 obtain ⟨R, hR⟩ : ∃ R, R = Builtin.zeroCells (Value.agg #[Value.int .i64 0, Value.bool false, Value.string ByteArray.empty, Value.int .i64 0, Value.int .i64 0, Value.int .i64 0, Value.string ByteArray.empty, Value.slice none 0 0, Value.slice none 0 0, Value.slice none 0 0]).cells (G - (ps.length + 1)) := ⟨_, rfl⟩
 have hrz : ∀ ty, (Builtin.append_ #[182, 3] ty #[.slice (some ⟨g, 0, none⟩) i c, .int .i64 ((ps.length : Int) + 1 - (i : Int))]).run Tryz.prog w =
   .ok (.slice (some ⟨w.heap.size, 0, none⟩) (ps.length + 1) G) (w.drew.alloc (.cells (((rowsV kInt ps).take (i * 10)).toArray ++ Z ++ R) 185)) := fun ty => by
  have h := Lib.run_append_grow_zeros (P := Tryz.prog) w 182 3 ty 185 i0 _ .i64 .i64 Tryz.underlying182 Tryz.underlying3 hi0 hz0 (some ⟨g, 0, none⟩) i c ((rowsV kInt ps).take (i * 10)) hold (ps.length + 1 - i) (by omega) (by omega) (by omega) (by omega) (by rw [hz2]; omega) (by rw [hz2, show i + (ps.length + 1 - i) = ps.length + 1 from by omega]; exact growslice_fits hroom (by omega))
  rw [show i + (ps.length + 1 - i) = ps.length + 1 from by omega, ← hG, ← hZ, ← hR] at h
  rw [show (ps.length : Int) + 1 - (i : Int) = ((ps.length + 1 - i : Nat) : Int) from by omega]
  exact h
 have hGn : ps.length + 1 ≤ G := by rw [hG]; exact grownCap_ge w _ _ _
 have hG63 : G ≤ 9223372036854775807 := by
  have := grownCap_le_maxLen w (ps.length + 1) c 185 (by unfold maxLen; omega)
  rw [← hG] at this
  unfold maxLen at this
  omega
 obtain ⟨row, hrow⟩ : ∃ r, r = ((rowsV kInt ps).take (i * 10)).toArray ++ Z ++ R := ⟨_, rfl⟩
 obtain ⟨row1, hrow1⟩ : ∃ c, c = (row.toList.take (i * 10) ++ rowV kInt p ++ row.toList.drop (i * 10 + (rowV kInt p).length)).toArray := ⟨_, rfl⟩
 obtain ⟨row2, hrow2⟩ : ∃ c, c = (row1.toList.take ((i + 1) * 10) ++ (rowsV kInt ps).drop (i * 10) ++ row1.toList.drop ((i + 1) * 10 + ((rowsV kInt ps).drop (i * 10)).length)).toArray := ⟨_, rfl⟩
 obtain ⟨z0, z1, z2, z3⟩ := grow_rowI p hw hq1 hq2 (Nat.le_of_lt hi) hGn Z R (by rw [hZ, size_zeroCells]; rfl) (by rw [hR, size_zeroCells]; rfl) hrow hrow1 hrow2
 rw [← hrow] at hrz
 obtain ⟨wa, ewa⟩ : ∃ wa, wa = w.drew.alloc (.cells row 185) := ⟨_, rfl⟩
 rw [← ewa] at hrz
 have hga : wa.heap[w.heap.size]? = some (.cells row 185 (0, 0)) := by rw [ewa]; exact heap_alloc_new w.drew _
 have hpa : PairAtI wa vb p := by unfold PairAtI; rw [ewa]; exact (Below.heap_alloc w.drew _ vb hvl).trans hp
 have hcp1 : ∀ ty dc, (Builtin.copy_ #[182, 182] ty #[.slice (some ⟨w.heap.size, i * 10, none⟩) (ps.length + 1 - i) dc, .slice (some ⟨vb, 0, none⟩) 1 1]).run Tryz.prog wa = .ok (goInt 1) (wa.setRow w.heap.size row1) := by
  intro ty dc
  rw [hrow1]
  exact run_copy_rowN wa _ _ ty 185 10 w.heap.size (i * 10) (ps.length + 1 - i) dc ⟨vb, 0, none⟩ 1 1 row _ (rowV kInt p) 1 Tryz.underlying182 (by kernel_rfl) hga (by simp only [Nat.min_def]; split <;> omega) (by rw [Nat.one_mul]; exact hq1) (fun j v hj => by
   rw [Addr.add_lit, Nat.zero_add]
   exact (cOh hpa j).trans (by simpa using hj)) (by rw [z0]; rw [show (rowV kInt p).length = 10 from hq1]; omega) (rowV_one kInt hq2)
 obtain ⟨w1, ew1⟩ : ∃ w1, w1 = wa.setRow w.heap.size row1 := ⟨_, rfl⟩
 have hg1 : w1.heap[w.heap.size]? = some (.cells row1 185 (0, 0)) := by rw [ew1]; exact setRow_heap wa _ row _ _ _ hga
 have hr1 : ∀ j v, (rowsV kInt ps)[j]? = some v → w1.drew.cell? ⟨g, j, none⟩ = some v := by
  intro j v hj
  have : w1.heap[g]? = w.heap[g]? := by
   rw [ew1, setRow_other wa w.heap.size g _ (by omega), ewa]
   exact Below.heap_alloc w.drew _ g hgl
  rw [← hread j v hj]
  exact World.cell?_of_block (a := ⟨g, j, none⟩) this
 rw [← ew1] at hcp1
 have hcp2 : ∀ ty dc sc, (Builtin.copy_ #[182, 182] ty #[.slice (some ⟨w.heap.size, (i + 1) * 10, none⟩) (ps.length - i) dc, .slice (some ⟨g, i * 10, none⟩) (ps.length - i) sc]).run Tryz.prog w1.drew = .ok (goInt ((ps.length - i : Nat) : Int)) (w1.drew.setRow w.heap.size row2) := by
  intro ty dc sc
  rw [hrow2]
  exact run_copy_rowN w1.drew _ _ ty 185 10 w.heap.size ((i + 1) * 10) (ps.length - i) dc ⟨g, i * 10, none⟩ (ps.length - i) sc row1 _ _ (ps.length - i) Tryz.underlying182 (by kernel_rfl) hg1 (by simp only [Nat.min_def]; split <;> omega) hdl (fun j v hj => by rw [Addr.add_lit]; exact hr1 _ v (by rwa [List.getElem?_drop] at hj)) (by rw [hdl, z1]; omega) (fun v hv => rowsV_one kInt hw v (List.mem_of_mem_drop hv))
 have HFIN : Hid ((w1.drew.setRow w.heap.size row2).ownsRow base 185 10 (.slice (some ⟨w.heap.size, 0, none⟩) (ps.length + 1) G) (ps.length + 1) (rowsV kInt (insK ps i p)) ∧ w.grownBy (w1.drew.setRow w.heap.size row2) (some g)) := by
  refine ⟨⟨by rw [rowsV_length kInt (hw.ins hq1 hq2), insK_length _ _ _ (by omega)], .inr ⟨w.heap.size, G, row2, rfl, hb, setRow_heap w1.drew _ row1 _ _ _ hg1, hGn, by unfold maxLen; omega, z2, z3⟩⟩, ?_⟩
  rw [ew1, ewa]
  exact ⟨rfl, rfl, rfl, by simp, fun k hk hne => by
   rw [setRow_other _ _ k _ (by omega)]
   show ((w.drew.alloc _).setRow _ _).heap[k]? = _
   rw [setRow_other _ _ k _ (by omega)]
   exact Below.heap_alloc w.drew _ k hk⟩
 have hw1 : IntKind.i64.wrap ((i : Int) + 1) = (i : Int) + 1 := by rw [IntKind.wrap_i64]; omega
 have hb1 : (0 : Int) ≤ (i : Int) + 1 := by omega
 have hin : i ≤ ps.length := by omega
 have htn : ((i : Int) + 1).toNat = i + 1 := by omega
 have hb3 : (i : Int) ≤ (ps.length : Int) + 1 := by omega
 have hb2 : ¬ (G = i + 1) := by omega
 have hb5 : ¬ (G = i) := by omega
 have hb4 : ¬ (c = i) := by omega
 have hz3 : (c : Int) < (ps.length : Int) + 1 := by omega
 clear ew1 ewa hrow hrow1 hrow2 hread hold hZ hG hR z0 z1 z2 z3 hsz htk hdl hg1 hga hpa hr1 hg hp hi0 hz0 hz1 hz2
 unfold maxLen at hcm
 go_enter Tryz.func137, Tryz.ntmps137
 go_wp2_with (first
  | (at_builtin; refine Lib.wpList_append_run _ rfl _ _ _ _ rfl _ _ rfl rfl _ _ (hrz _) ?_)
  | (at_builtin; refine wpList_copy_runI _ rfl _ _ 182 182 rfl _ _ rfl rfl (hcp1 _ _) ?_))
 go_region_law (refine step_copy_runI rfl _ _ 182 182 rfl _ _ (by simp [Act.eval, Act.put]) (by simp [Act.eval, Act.put]) (hcp2 _ _ _) ?_)
 go_wp2
 go_ret
 exact ⟨_, _, rfl, HFIN.out.1, HFIN.out.2, .inr rfl⟩
theorem ins_anyI (w : World) (base : Nat) (a : Option Addr) (c i : Nat) (ps : List (KV (Int))) (vb : Nat) (p : KV (Int)) (hown : w.ownsRow base 185 10 (.slice a ps.length c) ps.length (rowsV kInt ps)) (hp : PairAtI w vb p) (hne : (Value.slice a ps.length c).ownBlock ≠ some vb) (hb : base ≤ w.heap.size) (hl : ps.length ≤ 1000000) (hi : i ≤ ps.length) (hw : WidK 10 ps) (hq1 : p.2.length + 1 = 10) (hq2 : ∀ u ∈ p.2, u.oneCell' = true) :
  Calls Tryz.prog 137 #[.slice a ps.length c, .int .i64 i, .slice (some ⟨vb, 0, none⟩) 1 1] w (InsertedI w base (.slice a ps.length c) ps.length (rowsV kInt (insK ps i p))) := by
 rcases Nat.lt_or_eq_of_le hi with hlt | rfl
 ·rcases hown.2 with ⟨_, e⟩ | ⟨g, cap, cur, e, h1, h2, h3, h4, h5, h6⟩
  ·omega
  ·obtain ⟨rfl, _, rfl⟩ := Value.slice.inj e
   have hvg : vb ≠ g := fun e => hne (by simp [Value.ownBlock, e])
   rcases Nat.lt_or_ge c (ps.length + 1) with hr | hr
   ·exact ins_moreI w base g c i cur ps vb p hb h2 h4 h5 h6 hp hvg hl hlt h3 hr hw hq1 hq2
   ·exact ins_roomI w base g c i cur ps vb p h1 h2 h4 h5 h6 hp hvg hl hlt hr hw hq1 hq2
 ·have := ins_endI w base a c ps vb p hown hp hb hl hw hq1 hq2
  rw [show rowsV kInt ps ++ rowV kInt p = rowsV kInt (insK ps ps.length p) from by unfold insK; rw [List.take_length, List.drop_length, rowsV_append]; simp [rowsV]] at this
  exact this
set_option maxRecDepth 100000
theorem valsS {ps : List (KV (List UInt8))} (hw : WidK 2 ps) {p : KV (List UInt8)} (hp : p ∈ ps) : ∃ v1 : Value, p.2 = [v1] := by
 have h := hw.len p hp
 obtain ⟨k, l⟩ := p
 dsimp only at h ⊢
 match l, h with
 | [v1], _ => exact ⟨v1, rfl⟩
theorem cmpS_any (w : World) (k t : List UInt8) (v1 : Value) :
  Calls Tryz.prog 171 #[.agg #[strV k, v1], strV t] w fun e w' => e = .returned (.int .i64 (cmpOf kStr k t)) ∧ Below w.heap.size w w' := by
 unfold strV
 go_enter Tryz.func171, Tryz.ntmps171
 go_wp2
 ·have h : Op.bytesLess k t = true := by assumption
  go_ret
  exact ⟨by unfold cmpOf; rw [if_pos (show kStr.lt k t = true from h)]; rfl, (Below.refl _ w).alloc (Nat.le_refl _) _⟩
 ·have h : Op.bytesLess k t = false := by assumption
  have g : (!k == t) = true := by assumption
  go_ret
  exact ⟨by unfold cmpOf; rw [if_neg (by show ¬ Op.bytesLess k t = true; simp [h]), if_neg (by simpa using g)]; rfl, (Below.refl _ w).alloc (Nat.le_refl _) _⟩
 ·have h : Op.bytesLess k t = false := by assumption
  have g : (!k == t) = false := by assumption
  go_ret
  exact ⟨by unfold cmpOf; rw [if_neg (by show ¬ Op.bytesLess k t = true; simp [h]), if_pos (by simpa using g)]; rfl, (Below.refl _ w).alloc (Nat.le_refl _) _⟩
theorem bsS_any (w : World) (a : Option Addr) (c : Nat) (ps : List (KV (List UInt8))) (k : List UInt8) (hw : WidK 2 ps) (hr : RdK kStr 2 w a ps) (hs : SrtK kStr ps) (hl : ps.length ≤ 140737488351232) :
  Calls Tryz.prog 170 #[.slice a ps.length c, strV k, .func (.func 171) #[] #[]] w (FoundK kStr ps k w) := by
 have HR := hdL hr; have HS := hdL hs; have HW := hdL hw; clear hr hs hw
 go_enter Tryz.func170, Tryz.ntmps170
 go_wp2_with fail
 go_loopw [9, 10] (fun x y wr => ∃ (lo hi : Nat), lo ≤ hi ∧ hi ≤ ps.length ∧ x = .int .i64 lo ∧ y = .int .i64 hi ∧ Hid (∀ t p, t < lo → ps[t]? = some p → kStr.lt p.1 k = true) ∧ Hid (∀ t p, hi ≤ t → ps[t]? = some p → kStr.lt p.1 k = false) ∧ Hid (Below w.heap.size w wr)) (fun x y _ => (intOf y).toNat - (intOf x).toNat)
 case atStart => exact ⟨0, ps.length, Nat.zero_le _, Nat.le_refl _, rfl, rfl, fun t p h => absurd h (Nat.not_lt_zero _), fun t p h hp => absurd (gEs.1 hp).1 (by omega), Below.refl _ _⟩
 case round =>
  obtain ⟨lo, hi, hlh, hhi, rfl, rfl, hlo, hhg, hbl⟩ := hrel
  by_cases hlt : lo < hi
  ·have hne : ps ≠ [] := by intro e; rw [e] at hhi; simp at hhi; omega
   obtain ⟨b, rfl, hb, hcc⟩ := (HR.out.below hbl.out) hne
   obtain ⟨p, hp⟩ : ∃ p, ps[(lo + hi) / 2]? = some p := ⟨_, gEg (by omega)⟩
   obtain ⟨v1, hv⟩ := valsS HW.out (List.mem_of_getElem? hp)
   obtain ⟨kk, l⟩ := p
   dsimp only at hv
   subst hv
   have hc := hcc _ _ hp
   have c0 : wr.cell? ⟨b, (lo + hi) / 2 * 2, none⟩ = some (strV kk) := hc 0 _ rfl
   have c1 : wr.cell? ⟨b, (lo + hi) / 2 * 2 + 1, none⟩ = some (v1) := hc 1 _ rfl
   have HP := hdL hp; clear hp hcc hc
   cases hcm : kStr.lt kk k
   ·have hcc : ¬ cmpOf kStr kk k < 0 := fun h => by rw [cmpOf_lt.1 h] at hcm; cases hcm
    have HCM := hdL hcm; clear hcm
    go_wp2_with fail
    refine (cmpS_any _ _ _ v1).mono ?_
    rintro e w' ⟨rfl, hb'⟩
    have HB := hdL (hbl.out.trans (hb'.mono hbl.out.size)); clear hb'
    go_wp2_with fail
    go_roundw
    case rel => exact ⟨lo, (lo + hi) / 2, by omega, by omega, rfl, by go_num, hlo, fun t q ht hq => highK_step HS.out HP.out HCM.out t q ht hq, HB.out⟩
    case measure => simp [intOf]; omega
   ·have hcc : cmpOf kStr kk k < 0 := cmpOf_lt.2 hcm
    have HCM := hdL hcm; clear hcm
    go_wp2_with fail
    refine (cmpS_any _ _ _ v1).mono ?_
    rintro e w' ⟨rfl, hb'⟩
    have HB := hdL (hbl.out.trans (hb'.mono hbl.out.size)); clear hb'
    go_wp2_with fail
    go_roundw
    case rel => exact ⟨(lo + hi) / 2 + 1, hi, by omega, hhi, by go_num, rfl, fun t q ht hq => lowK_step HS.out HP.out HCM.out t q ht hq, hhg, HB.out⟩
    case measure => simp [intOf]; omega
  ·have hpos := hdL (posK_of hlh hlt hhi hlo.out hhg.out)
   clear hlo hhg
   by_cases hin : lo < ps.length
   ·have hne : ps ≠ [] := by intro e; rw [e] at hin; exact absurd hin (Nat.not_lt_zero _)
    obtain ⟨b, rfl, hb, hcc⟩ := (HR.out.below hbl.out) hne
    obtain ⟨p, hp⟩ : ∃ p, ps[lo]? = some p := ⟨_, gEg hin⟩
    obtain ⟨v1, hv⟩ := valsS HW.out (List.mem_of_getElem? hp)
    obtain ⟨kk, l⟩ := p
    dsimp only at hv
    subst hv
    have hc := hcc _ _ hp
    have c0 : wr.cell? ⟨b, lo * 2, none⟩ = some (strV kk) := hc 0 _ rfl
    have c1 : wr.cell? ⟨b, lo * 2 + 1, none⟩ = some (v1) := hc 1 _ rfl
    have HP := hdL hp; clear hp hcc hc
    go_wp2_with fail
    refine (cmpS_any _ _ _ v1).mono ?_
    rintro e w' ⟨rfl, hb'⟩
    have HB := hdL (hbl.out.trans (hb'.mono hbl.out.size)); clear hb'
    go_wp2_with fail
    go_ret2
    exact ⟨lo, _, rfl, hpos.out, foundK_in HS.out hpos.out _ HP.out, HB.out⟩
   ·go_wp2_with fail
    go_ret2
    refine ⟨lo, _, rfl, hpos.out, ?_, hbl.out⟩
    have e : lo = ps.length := by omega
    have hp := hpos.out
    rw [e] at hp
    exact foundK_out HS.out hp
def shFoot (S : Nat) (v : Value) : List Nat := S :: v.ownBlock.toList
structure ShSAt (w : World) (S : Nat) (v : Value) (ps : List (KV (List UInt8))) : Prop where
 cells : w.heap[S]? = some (.cells #[v] 155 (0, 0))
 row : w.ownsRow 0 180 2 v ps.length (rowsV kStr ps)
 apart : v.ownBlock ≠ some S
 srt : SrtK kStr ps
 wid : WidK 2 ps
theorem ShSAt.lt {w : World} {S : Nat} {v : Value} {ps : List (KV (List UInt8))} (h : ShSAt w S v ps) : ∀ k ∈ shFoot S v, k < w.heap.size := by
 intro k hk
 rcases List.mem_cons.1 hk with rfl | hk
 ·exact loh h.cells
 ·exact owns_lt h.row k (by simpa using hk)
theorem ShSAt.keep {w w' : World} {S : Nat} {v : Value} {ps : List (KV (List UInt8))} (h : ShSAt w S v ps) (hk : ∀ k ∈ shFoot S v, w'.heap[k]? = w.heap[k]?) : ShSAt w' S v ps :=
 ⟨(hk S (by simp [shFoot])).trans h.cells, ownsRow_keep h.row (fun g hg => hk g (by simp [shFoot, hg])), h.apart, h.srt, h.wid⟩
theorem ShSAt.below {w w' : World} {S : Nat} {v : Value} {ps : List (KV (List UInt8))} (h : ShSAt w S v ps) (hb : Below w.heap.size w w') : ShSAt w' S v ps :=
 h.keep fun k hk => hb.block k (h.lt k hk)
theorem ShSAt.rd {w : World} {S : Nat} {a : Option Addr} {n c : Nat} {ps : List (KV (List UInt8))} (h : ShSAt w S (.slice a n c) ps) : RdK kStr 2 w a ps := by
 obtain ⟨a', c', e⟩ := owns_form h.row
 obtain ⟨rfl, rfl, rfl⟩ := Value.slice.inj e
 exact RdK.of_owns h.wid (by decide) h.row
theorem findS_any (w : World) (S : Nat) (v : Value) (ps : List (KV (List UInt8))) (k : List UInt8) (h : ShSAt w S v ps) (hl : ps.length ≤ 1000000) :
  Calls Tryz.prog 134 #[.pointer (some ⟨S, 0, none⟩), strV k] w (FoundK kStr ps k w) := by
 obtain ⟨a, c, rfl⟩ := owns_form h.row
 have h0 := cOh h.cells 0
 have hbs := bsS_any w a c ps k h.wid h.rd h.srt (by omega)
 have HBS := hdL hbs
 clear hbs h
 go_enter Tryz.func134, Tryz.ntmps134
 go_wp2_with fail
 refine HBS.out.mono ?_
 rintro e w' ⟨i, b, rfl, h1, h2, h3⟩
 have H1 := hdL h1; have H2 := hdL h2; have H3 := hdL h3; clear h1 h2 h3
 go_wp2_with fail
 go_ret2
 exact ⟨i, b, rfl, H1.out, H2.out, H3.out⟩
theorem shnewS_any (w : World) :
  Calls Tryz.prog 57 #[] w fun e w' => e = .returned (.pointer (some ⟨w.heap.size, 0, none⟩)) ∧ w' = w.alloc (.cells #[.slice none 0 0] 155) := by
 go_enter Tryz.func57, Tryz.ntmps57
 go_wp2
 go_ret
 exact ⟨rfl, rfl⟩
theorem valsI {ps : List (KV (Int))} (hw : WidK 10 ps) {p : KV (Int)} (hp : p ∈ ps) : ∃ v1 v2 v3 v4 v5 v6 v7 v8 v9 : Value, p.2 = [v1, v2, v3, v4, v5, v6, v7, v8, v9] := by
 have h := hw.len p hp
 obtain ⟨k, l⟩ := p
 dsimp only at h ⊢
 match l, h with
 | [v1, v2, v3, v4, v5, v6, v7, v8, v9], _ => exact ⟨v1, v2, v3, v4, v5, v6, v7, v8, v9, rfl⟩
theorem cmpI_any (w : World) (k t : Int) (v1 v2 v3 v4 v5 v6 v7 v8 v9 : Value) :
  Calls Tryz.prog 175 #[.agg #[.int .i64 k, v1, v2, v3, v4, v5, v6, v7, v8, v9], .int .i64 t] w fun e w' => e = .returned (.int .i64 (cmpOf kInt k t)) ∧ Below w.heap.size w w' := by
 have HB := hdL (show Below w.heap.size w (w.alloc (.cells #[.int .i64 k, v1, v2, v3, v4, v5, v6, v7, v8, v9] 185)) from (Below.refl _ w).alloc (Nat.le_refl _) _)
 obtain ⟨R, hR⟩ : ∃ R, R = cmpOf kInt k t := ⟨_, rfl⟩
 rw [← hR]
 unfold cmpOf at hR
 change R = if decide (k < t) = true then -1 else if k = t then 0 else 1 at hR
 have HR := hdL hR
 clear hR
 rcases Int.lt_trichotomy k t with h | h | h
 ·have HE := hdL (show R = -1 by rw [HR.out, if_pos (decide_eq_true h)])
  go_enter Tryz.func175, Tryz.ntmps175
  go_wp2
  go_ret
  exact ⟨by (rw [HE.out]; rfl), HB.out⟩
 ·have h1 : ¬ k < t := by omega
  have h2 : ¬ t < k := by omega
  have HE := hdL (show R = 0 by rw [HR.out, if_neg (by simpa using h1), if_pos h])
  clear h
  go_enter Tryz.func175, Tryz.ntmps175
  go_wp2
  go_ret
  exact ⟨by (rw [HE.out]; rfl), HB.out⟩
 ·have h1 : ¬ k < t := by omega
  have HE := hdL (show R = 1 by rw [HR.out, if_neg (by simpa using h1), if_neg (by omega)])
  go_enter Tryz.func175, Tryz.ntmps175
  go_wp2
  go_ret
  exact ⟨by (rw [HE.out]; rfl), HB.out⟩
theorem bsI_any (w : World) (a : Option Addr) (c : Nat) (ps : List (KV (Int))) (k : Int) (hw : WidK 10 ps) (hr : RdK kInt 10 w a ps) (hs : SrtK kInt ps) (hl : ps.length ≤ 140737488351232) :
  Calls Tryz.prog 174 #[.slice a ps.length c, .int .i64 k, .func (.func 175) #[] #[]] w (FoundK kInt ps k w) := by
 have HR := hdL hr; have HS := hdL hs; have HW := hdL hw; clear hr hs hw
 go_enter Tryz.func174, Tryz.ntmps174
 go_wp2_with fail
 go_loopw [9, 10] (fun x y wr => ∃ (lo hi : Nat), lo ≤ hi ∧ hi ≤ ps.length ∧ x = .int .i64 lo ∧ y = .int .i64 hi ∧ Hid (∀ t p, t < lo → ps[t]? = some p → kInt.lt p.1 k = true) ∧ Hid (∀ t p, hi ≤ t → ps[t]? = some p → kInt.lt p.1 k = false) ∧ Hid (Below w.heap.size w wr)) (fun x y _ => (intOf y).toNat - (intOf x).toNat)
 case atStart => exact ⟨0, ps.length, Nat.zero_le _, Nat.le_refl _, rfl, rfl, fun t p h => absurd h (Nat.not_lt_zero _), fun t p h hp => absurd (gEs.1 hp).1 (by omega), Below.refl _ _⟩
 case round =>
  obtain ⟨lo, hi, hlh, hhi, rfl, rfl, hlo, hhg, hbl⟩ := hrel
  by_cases hlt : lo < hi
  ·have hne : ps ≠ [] := by intro e; rw [e] at hhi; simp at hhi; omega
   obtain ⟨b, rfl, hb, hcc⟩ := (HR.out.below hbl.out) hne
   obtain ⟨p, hp⟩ : ∃ p, ps[(lo + hi) / 2]? = some p := ⟨_, gEg (by omega)⟩
   obtain ⟨v1, v2, v3, v4, v5, v6, v7, v8, v9, hv⟩ := valsI HW.out (List.mem_of_getElem? hp)
   obtain ⟨kk, l⟩ := p
   dsimp only at hv
   subst hv
   have hc := hcc _ _ hp
   have c0 : wr.cell? ⟨b, (lo + hi) / 2 * 10, none⟩ = some (.int .i64 kk) := hc 0 _ rfl
   have c1 : wr.cell? ⟨b, (lo + hi) / 2 * 10 + 1, none⟩ = some (v1) := hc 1 _ rfl
   have c2 : wr.cell? ⟨b, (lo + hi) / 2 * 10 + 2, none⟩ = some (v2) := hc 2 _ rfl
   have c3 : wr.cell? ⟨b, (lo + hi) / 2 * 10 + 3, none⟩ = some (v3) := hc 3 _ rfl
   have c4 : wr.cell? ⟨b, (lo + hi) / 2 * 10 + 4, none⟩ = some (v4) := hc 4 _ rfl
   have c5 : wr.cell? ⟨b, (lo + hi) / 2 * 10 + 5, none⟩ = some (v5) := hc 5 _ rfl
   have c6 : wr.cell? ⟨b, (lo + hi) / 2 * 10 + 6, none⟩ = some (v6) := hc 6 _ rfl
   have c7 : wr.cell? ⟨b, (lo + hi) / 2 * 10 + 7, none⟩ = some (v7) := hc 7 _ rfl
   have c8 : wr.cell? ⟨b, (lo + hi) / 2 * 10 + 8, none⟩ = some (v8) := hc 8 _ rfl
   have c9 : wr.cell? ⟨b, (lo + hi) / 2 * 10 + 9, none⟩ = some (v9) := hc 9 _ rfl
   have HP := hdL hp; clear hp hcc hc
   cases hcm : kInt.lt kk k
   ·have hcc : ¬ cmpOf kInt kk k < 0 := fun h => by rw [cmpOf_lt.1 h] at hcm; cases hcm
    have HCM := hdL hcm; clear hcm
    go_wp2_with fail
    refine (cmpI_any _ _ _ v1 v2 v3 v4 v5 v6 v7 v8 v9).mono ?_
    rintro e w' ⟨rfl, hb'⟩
    have HB := hdL (hbl.out.trans (hb'.mono hbl.out.size)); clear hb'
    go_wp2_with fail
    go_roundw
    case rel => exact ⟨lo, (lo + hi) / 2, by omega, by omega, rfl, by go_num, hlo, fun t q ht hq => highK_step HS.out HP.out HCM.out t q ht hq, HB.out⟩
    case measure => simp [intOf]; omega
   ·have hcc : cmpOf kInt kk k < 0 := cmpOf_lt.2 hcm
    have HCM := hdL hcm; clear hcm
    go_wp2_with fail
    refine (cmpI_any _ _ _ v1 v2 v3 v4 v5 v6 v7 v8 v9).mono ?_
    rintro e w' ⟨rfl, hb'⟩
    have HB := hdL (hbl.out.trans (hb'.mono hbl.out.size)); clear hb'
    go_wp2_with fail
    go_roundw
    case rel => exact ⟨(lo + hi) / 2 + 1, hi, by omega, hhi, by go_num, rfl, fun t q ht hq => lowK_step HS.out HP.out HCM.out t q ht hq, hhg, HB.out⟩
    case measure => simp [intOf]; omega
  ·have hpos := hdL (posK_of hlh hlt hhi hlo.out hhg.out)
   clear hlo hhg
   by_cases hin : lo < ps.length
   ·have hne : ps ≠ [] := by intro e; rw [e] at hin; exact absurd hin (Nat.not_lt_zero _)
    obtain ⟨b, rfl, hb, hcc⟩ := (HR.out.below hbl.out) hne
    obtain ⟨p, hp⟩ : ∃ p, ps[lo]? = some p := ⟨_, gEg hin⟩
    obtain ⟨v1, v2, v3, v4, v5, v6, v7, v8, v9, hv⟩ := valsI HW.out (List.mem_of_getElem? hp)
    obtain ⟨kk, l⟩ := p
    dsimp only at hv
    subst hv
    have hc := hcc _ _ hp
    have c0 : wr.cell? ⟨b, lo * 10, none⟩ = some (.int .i64 kk) := hc 0 _ rfl
    have c1 : wr.cell? ⟨b, lo * 10 + 1, none⟩ = some (v1) := hc 1 _ rfl
    have c2 : wr.cell? ⟨b, lo * 10 + 2, none⟩ = some (v2) := hc 2 _ rfl
    have c3 : wr.cell? ⟨b, lo * 10 + 3, none⟩ = some (v3) := hc 3 _ rfl
    have c4 : wr.cell? ⟨b, lo * 10 + 4, none⟩ = some (v4) := hc 4 _ rfl
    have c5 : wr.cell? ⟨b, lo * 10 + 5, none⟩ = some (v5) := hc 5 _ rfl
    have c6 : wr.cell? ⟨b, lo * 10 + 6, none⟩ = some (v6) := hc 6 _ rfl
    have c7 : wr.cell? ⟨b, lo * 10 + 7, none⟩ = some (v7) := hc 7 _ rfl
    have c8 : wr.cell? ⟨b, lo * 10 + 8, none⟩ = some (v8) := hc 8 _ rfl
    have c9 : wr.cell? ⟨b, lo * 10 + 9, none⟩ = some (v9) := hc 9 _ rfl
    have HP := hdL hp; clear hp hcc hc
    go_wp2_with fail
    refine (cmpI_any _ _ _ v1 v2 v3 v4 v5 v6 v7 v8 v9).mono ?_
    rintro e w' ⟨rfl, hb'⟩
    have HB := hdL (hbl.out.trans (hb'.mono hbl.out.size)); clear hb'
    go_wp2_with fail
    go_ret2
    exact ⟨lo, _, rfl, hpos.out, foundK_in HS.out hpos.out _ HP.out, HB.out⟩
   ·go_wp2_with fail
    go_ret2
    refine ⟨lo, _, rfl, hpos.out, ?_, hbl.out⟩
    have e : lo = ps.length := by omega
    have hp := hpos.out
    rw [e] at hp
    exact foundK_out HS.out hp
structure ShIAt (w : World) (S : Nat) (v : Value) (ps : List (KV (Int))) : Prop where
 cells : w.heap[S]? = some (.cells #[v] 187 (0, 0))
 row : w.ownsRow 0 185 10 v ps.length (rowsV kInt ps)
 apart : v.ownBlock ≠ some S
 srt : SrtK kInt ps
 wid : WidK 10 ps
theorem ShIAt.lt {w : World} {S : Nat} {v : Value} {ps : List (KV (Int))} (h : ShIAt w S v ps) : ∀ k ∈ shFoot S v, k < w.heap.size := by
 intro k hk
 rcases List.mem_cons.1 hk with rfl | hk
 ·exact loh h.cells
 ·exact owns_lt h.row k (by simpa using hk)
theorem ShIAt.keep {w w' : World} {S : Nat} {v : Value} {ps : List (KV (Int))} (h : ShIAt w S v ps) (hk : ∀ k ∈ shFoot S v, w'.heap[k]? = w.heap[k]?) : ShIAt w' S v ps :=
 ⟨(hk S (by simp [shFoot])).trans h.cells, ownsRow_keep h.row (fun g hg => hk g (by simp [shFoot, hg])), h.apart, h.srt, h.wid⟩
theorem ShIAt.below {w w' : World} {S : Nat} {v : Value} {ps : List (KV (Int))} (h : ShIAt w S v ps) (hb : Below w.heap.size w w') : ShIAt w' S v ps :=
 h.keep fun k hk => hb.block k (h.lt k hk)
theorem ShIAt.rd {w : World} {S : Nat} {a : Option Addr} {n c : Nat} {ps : List (KV (Int))} (h : ShIAt w S (.slice a n c) ps) : RdK kInt 10 w a ps := by
 obtain ⟨a', c', e⟩ := owns_form h.row
 obtain ⟨rfl, rfl, rfl⟩ := Value.slice.inj e
 exact RdK.of_owns h.wid (by decide) h.row
theorem findI_any (w : World) (S : Nat) (v : Value) (ps : List (KV (Int))) (k : Int) (h : ShIAt w S v ps) (hl : ps.length ≤ 1000000) :
  Calls Tryz.prog 136 #[.pointer (some ⟨S, 0, none⟩), .int .i64 k] w (FoundK kInt ps k w) := by
 obtain ⟨a, c, rfl⟩ := owns_form h.row
 have h0 := cOh h.cells 0
 have hbs := bsI_any w a c ps k h.wid h.rd h.srt (by omega)
 have HBS := hdL hbs
 clear hbs h
 go_enter Tryz.func136, Tryz.ntmps136
 go_wp2_with fail
 refine HBS.out.mono ?_
 rintro e w' ⟨i, b, rfl, h1, h2, h3⟩
 have H1 := hdL h1; have H2 := hdL h2; have H3 := hdL h3; clear h1 h2 h3
 go_wp2_with fail
 go_ret2
 exact ⟨i, b, rfl, H1.out, H2.out, H3.out⟩
theorem shnewI_any (w : World) :
  Calls Tryz.prog 97 #[] w fun e w' => e = .returned (.pointer (some ⟨w.heap.size, 0, none⟩)) ∧ w' = w.alloc (.cells #[.slice none 0 0] 187) := by
 go_enter Tryz.func97, Tryz.ntmps97
 go_wp2
 go_ret
 exact ⟨rfl, rfl⟩
def GetS (ps : List (KV (List UInt8))) (k : List UInt8) (w : World) (e : Ending) (w' : World) : Prop :=
 ∃ (v : Value) (b : Bool), e = .returned (.tuple #[v, .bool b]) ∧ (b = true → (k, [v]) ∈ ps) ∧ (b = false → v = .pointer none ∧ ∀ l, (k, l) ∉ ps) ∧ Below w.heap.size w w'
theorem shgetS_any (w : World) (S : Nat) (v : Value) (ps : List (KV (List UInt8))) (k : List UInt8) (h : ShSAt w S v ps) (hl : ps.length ≤ 1000000) :
  Calls Tryz.prog 96 #[.pointer (some ⟨S, 0, none⟩), strV k] w (GetS ps k w) := by
 obtain ⟨a, c, rfl⟩ := owns_form h.row
 have HF := hdL (findS_any w S _ ps k h hl)
 have HH := hdL h; clear h
 go_enter Tryz.func96, Tryz.ntmps96
 go_wp2_with fail
 refine HF.out.mono ?_
 rintro e w' ⟨i, b, rfl, h1, h2, h3⟩
 cases b
 ·have h2' : ∀ v, (k, v) ∉ ps := fun v hv => by have := h2.2 ⟨v, hv⟩; cases this
  have H2 := hdL h2'; have H3 := hdL h3; clear h1 h2 h3 h2'
  go_wp2_with fail
  go_ret2
  exact ⟨.pointer none, false, rfl, (fun e => by cases e), fun _ => ⟨rfl, H2.out⟩, H3.out⟩
 ·obtain ⟨val, hval⟩ := h2.1 rfl
  have hat := h1.at HH.out.srt hval
  have hil := (gEs.1 hat).1
  have hne : ps ≠ [] := by intro e; rw [e] at hil; exact absurd hil (Nat.not_lt_zero _)
  have hk := (HH.out.below h3)
  obtain ⟨g, rfl, hg, hcc⟩ := hk.rd hne
  obtain ⟨v1, hv⟩ := valsS hk.wid hval
  dsimp only at hv
  subst hv
  have hc := hcc _ _ hat
  have c1 : w'.cell? ⟨g, i * 2 + 1, none⟩ = some v1 := hc 1 _ rfl
  have k0 := cOh hk.cells 0
  have HV := hdL hval; have H3 := hdL h3; clear h1 h2 h3 hc hcc hval hat hk
  go_wp2_with fail
  go_ret2
  exact ⟨v1, true, rfl, fun _ => HV.out, (fun e => by cases e), H3.out⟩
end Go.Proofs.YtaagkndhgicifaaGreat
