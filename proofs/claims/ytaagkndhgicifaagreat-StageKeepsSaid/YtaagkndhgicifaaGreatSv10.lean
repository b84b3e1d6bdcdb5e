/- DERIVED. Texts of this claim, put together: SolS, SolF, MeetLaw. -/
import Derived.Shelf.SlSortCmp.NoneTotal
import Derived.Test.YtaagkndhgicifaaGreatStd
import Derived.Test.YtaagkndhgicifaaGreatSolE
import Derived.Defers
import Derived.Recover
import Derived.Laws.Pointers
namespace Go.Proofs.YtaagkndhgicifaaGreat
set_option maxHeartbeats 32000000
open Go.RowKit Go.Shelf Go.Sort
set_option linter.unusedVariables false
set_option linter.unusedSimpArgs false
set_option maxRecDepth 100000
theorem cmp_less : ∀ a b : List UInt8, decide (Lib.compareBytes a b < 0) = Op.bytesLess a b
 | [], [] => rfl
 | [], _ :: _ => rfl
 | _ :: _, [] => rfl
 | x :: a, y :: b => by
  have ih := cmp_less a b
  unfold Lib.compareBytes Op.bytesLess
  by_cases h1 : x < y
  ·simp [h1]
  ·by_cases h2 : y < x
   ·have h3 : ¬ x = y := fun e => by subst e; exact absurd h2 h1
    simp [h1, h2, h3]
   ·have h3 : x = y := by
     apply Decidable.byContradiction
     intro hne
     rcases UInt8.lt_or_lt_of_ne hne with h | h
     ·exact h1 h
     ·exact h2 h
    subst h3
    simp [h1, ih]
abbrev cfN (x y : Pk) : Int := Lib.compareBytes x.1 y.1
theorem ltN (x y : Pk) : ltOf cfN x y = Op.bytesLess x.1 y.1 := cmp_less x.1 y.1
theorem swoN : SWO (ltOf cfN) where
 irrefl x := by rw [ltN]; exact less_irrefl _
 trans x y z h1 h2 := by rw [ltN] at *; exact less_trans _ _ _ h1 h2
 ntrans x y z h1 h2 := by
  rw [ltN] at *
  cases h : Op.bytesLess x.1 z.1
  ·rfl
  ·cases h3 : Op.bytesLess y.1 x.1
   ·have e := less_total _ _ h1 h3
    rw [e] at h
    rw [h] at h2
    cases h2
   ·have := less_trans _ _ _ h3 h
    rw [this] at h2
    cases h2
theorem cmpN_any (x y : Pk) (W : World) : Calls Tryz.prog 89 #[.agg #[strV x.1, .int .i64 x.2.1, .int .i64 x.2.2.1, .int .i64 x.2.2.2], .agg #[strV y.1, .int .i64 y.2.1, .int .i64 y.2.2.1, .int .i64 y.2.2.2]] W fun e w' => e = .returned (.int .i64 (cfN x y)) ∧ ∃ q os', w' = grow (W.drewN q) os' := by
 have hc := fun V => Tryz.strings_Compare ⟨x.1.toArray⟩ ⟨y.1.toArray⟩ V
 unfold cfN
 simp only at hc
 generalize Lib.compareBytes x.1 y.1 = r at hc ⊢
 unfold strV
 have HC := hdL hc
 clear hc
 go_enter Tryz.func89, Tryz.ntmps89
 go_wp2_with fail
 refine (HC.out _).mono ?_
 rintro e w' ⟨rfl, rfl⟩
 go_wp2_with fail
 go_ret
 exact ⟨rfl, 0, _, by rw [alloc_eq_grow, alloc_eq_grow, grow_grow]; rfl⟩
theorem own_putC {α : Type} [Inhabited α] {enc : α → List Value} {k : Nat} (hk : ∀ x, (enc x).length = k) (k0 : 0 < k) {w : World} {base g cap n : Nat} {e : TypeId} {os : Array Obj} {cur : Array Value} {m : Nat} {ts : List α} (hl : ts.length = m) (hbase : base ≤ g) (hb : w.heap[g]? = some (.cells cur e (0, 0)))
  (h1 : m ≤ cap) (h2 : cap ≤ maxLen) (h3 : cap * k ≤ cur.size) :
  ownsC (grow (putRowK enc k (Sort.ahead w n) g 0 ts.toArray) os) base e k (.slice (some ⟨g, 0, none⟩) m cap) m (ts.flatMap enc) :=
 ⟨by rw [flat_len hk, hl], .inr ⟨g, cap, _, rfl, hbase, heap_putK _ hb, h1, h2, by simpa [putCells] using h3, by
  rw [← hl]
  refine take_putK hk k0 cur ts ?_
  rw [hl]
  exact Nat.le_trans (Nat.mul_le_mul_right k h1) h3⟩⟩
theorem sortP_of {ch ds : List Pk} (hp : ds.Perm ch) (hn : (ch.map Prod.fst).Nodup) (hs : ds.Pairwise fun x y => Op.bytesLess y.1 x.1 = false) : ds = sortP ch := by
 have hnd : (ds.map Prod.fst).Nodup := (hp.map Prod.fst).nodup_iff.2 hn
 refine srtP_ext ?_ (sortP_srt ch) (fun p => by rw [mem_sortP]; exact hp.mem_iff)
 have h2 : ds.Pairwise fun x y => x.1 ≠ y.1 := by
  have := List.pairwise_map.1 hnd
  exact this
 refine (hs.and h2).imp ?_
 rintro x y ⟨h3, h4⟩
 unfold pkLt
 rw [if_neg h4]
 cases h : Op.bytesLess x.1 y.1
 ·exact absurd (less_total _ _ h h3) h4
 ·rfl
theorem ssort_any (w : World) (base : Nat) (v : Value) (ch : List Pk) (h : ownsC w base 41 4 v ch.length (ch.flatMap pkL)) (hl : ch.length ≤ 30000) (hn : (ch.map Prod.fst).Nodup) :
  Calls Tryz.prog 88 #[v, .func (.func 89) #[] #[]] w fun e w' => e = .returned (.tuple #[]) ∧ ownsC w' base 41 4 v ch.length ((sortP ch).flatMap pkL) ∧ w.grownBy w' v.ownBlock := by
 rcases h.2 with ⟨rfl, h0⟩ | ⟨g, cap, cur, rfl, hbase, hb, h1, h2, h3, h4⟩
 ·obtain rfl : ch = [] := eN0 h0
  have hc := AnyF.slices_SortFunc_none Tryz.laysSortPkg none 0 (.func (.func 89) #[] #[]) w
  change Calls Tryz.prog 88 _ _ _ at hc
  refine hc.mono ?_
  rintro e w' ⟨rfl, rfl⟩
  exact ⟨rfl, ownsC_nil _ _ _ _, World.grownBy.refl _ _⟩
 ·have hH := holdsK_own pkL_len (by decide) hb h4
  have hc := AnyQ.slices_SortFunc Tryz.laysSortPkg 4 Tryz.isAgg41 Tryz.sizeOf41 pkL pkL_len pkL_one cfN swoN 89 #[] g 0 cap ch.toArray w (enters_of Tryz.func89 (by kernel_rfl) rfl) (fun _ _ _ _ x y => cmpN_any x y _) hH (loh hb) (by simp; omega)
  change Calls Tryz.prog 88 _ _ _ at hc
  rw [List.size_toArray] at hc
  refine hc.mono ?_
  rintro e w' ⟨rfl, d', n, os, hp, hs, rfl⟩
  obtain ⟨ds, rfl⟩ : ∃ ds : List Pk, d' = ds.toArray := ⟨d'.toList, by simp⟩
  obtain ⟨hz, -, hpm⟩ := hp
  have hz' : ds.length = ch.length := by simpa using hz
  have hpm' : ds.Perm ch := by
   have e1 : ds.toArray.extract 0 ch.length = ds.toArray := by rw [← hz']; simp
   have e2 : ch.toArray.extract 0 ch.length = ch.toArray := by simp
   rw [e1, e2] at hpm
   exact hpm
  have hsr : ds.Pairwise fun x y => Op.bytesLess y.1 x.1 = false := by
   rw [List.pairwise_iff_getElem]
   intro i j hi hj hij
   have := hs i j (Nat.zero_le _) hij (by rw [← hz']; exact hj)
   rw [ltN] at this
   rw [getElem!_pos ds.toArray i (by simpa using hi), getElem!_pos ds.toArray j (by simpa using hj)] at this
   simpa using this
  rw [← sortP_of hpm' hn hsr]
  exact ⟨rfl, own_putC pkL_len (by decide) hz' hbase hb h1 h2 h3, grownBy_putK _⟩
open Go.RowKit Go.Shelf
theorem five_set {w : World} {B : Nat} {t : TypeId} {y0 y1 y2 y3 y4 : Value} (h : w.heap[B]? = some (.cells #[y0, y1, y2, y3, y4] t (0, 0))) (x0 x1 x2 x3 x4 : Value) :
  ∃ W, (((((w.setCell ⟨B, 0, none⟩ x0).setCell ⟨B, 1, none⟩ x1).setCell ⟨B, 2, none⟩ x2).setCell ⟨B, 3, none⟩ x3).setCell ⟨B, 4, none⟩ x4) = W ∧ W.heap[B]? = some (.cells #[x0, x1, x2, x3, x4] t (0, 0)) ∧ Ch [B] w W := by
 have s0 := set_at 0 x0 h (ds := #[x0, y1, y2, y3, y4]) (by simp)
 have s1 := set_at 1 x1 s0 (ds := #[x0, x1, y2, y3, y4]) (by simp)
 have s2 := set_at 2 x2 s1 (ds := #[x0, x1, x2, y3, y4]) (by simp)
 have s3 := set_at 3 x3 s2 (ds := #[x0, x1, x2, x3, y4]) (by simp)
 have s4 := set_at 4 x4 s3 (ds := #[x0, x1, x2, x3, x4]) (by simp)
 refine ⟨_, rfl, s4, ?_⟩
 exact (((((Ch.refl [B] w).setCell (p := ⟨B, 0, none⟩) (.inl (List.mem_singleton_self _)) x0).setCell (p := ⟨B, 1, none⟩) (.inl (List.mem_singleton_self _)) x1).setCell (p := ⟨B, 2, none⟩) (.inl (List.mem_singleton_self _)) x2).setCell (p := ⟨B, 3, none⟩) (.inl (List.mem_singleton_self _)) x3).setCell (p := ⟨B, 4, none⟩) (.inl (List.mem_singleton_self _)) x4
theorem three_set {w w1 : World} {B8 B9 B10 : Nat} {t8 t9 t10 : TypeId} {y0 y1 y2 y3 y4 m0 e0 : Value} (hb : Ch [B8, B9, B10] w w1) (h8 : w1.heap[B8]? = some (.cells #[y0, y1, y2, y3, y4] t8 (0, 0))) (h9 : w1.heap[B9]? = some (.cells #[m0] t9 (0, 0))) (h10 : w1.heap[B10]? = some (.cells #[e0] t10 (0, 0)))
  (n1 : ¬ B8 = B9) (n2 : ¬ B8 = B10) (n3 : ¬ B9 = B10) (x0 x1 x2 x3 x4 m e : Value) :
  ∃ W, (((((((w1.setCell ⟨B8, 0, none⟩ x0).setCell ⟨B8, 1, none⟩ x1).setCell ⟨B8, 2, none⟩ x2).setCell ⟨B8, 3, none⟩ x3).setCell ⟨B8, 4, none⟩ x4).setCell ⟨B9, 0, none⟩ m).setCell ⟨B10, 0, none⟩ e) = W ∧ Ch [B8, B9, B10] w W ∧
   W.heap[B8]? = some (.cells #[x0, x1, x2, x3, x4] t8 (0, 0)) ∧ W.heap[B9]? = some (.cells #[m] t9 (0, 0)) ∧ W.heap[B10]? = some (.cells #[e] t10 (0, 0)) := by
 obtain ⟨W8, e8, g8, c8⟩ := five_set h8 x0 x1 x2 x3 x4
 rw [e8]
 have g9 := (c8.block B9 (loh h9) (by rw [mSg]; exact fun e => n1 e.symm)).trans h9
 have g10 := (c8.block B10 (loh h10) (by rw [mSg]; exact fun e => n2 e.symm)).trans h10
 have k9 := heap_setCell_here (i := 0) m g9
 have k10 := (bHs W8 ⟨B9, 0, none⟩ m B10 (fun e => n3 e.symm)).trans g10
 have k8 := (bHs W8 ⟨B9, 0, none⟩ m B8 n1).trans g8
 have l10 := heap_setCell_here (i := 0) e k10
 have l9 := (bHs (W8.setCell ⟨B9, 0, none⟩ m) ⟨B10, 0, none⟩ e B9 n3).trans k9
 have l8 := (bHs (W8.setCell ⟨B9, 0, none⟩ m) ⟨B10, 0, none⟩ e B8 n2).trans k8
 refine ⟨_, rfl, ?_, l8, l9, l10⟩
 exact ((hb.trans c8 (fun x hx => .inl (by rw [mSg.1 hx]; simp))).setCell (p := ⟨B9, 0, none⟩) (.inl (by simp)) m).setCell (p := ⟨B10, 0, none⟩) (.inl (by simp)) e
structure CatchAt (w : World) (Ph Hb B8 B9 B10 B : Nat) (vp vW vC : Value) (left made : Int) (s : ByteArray) (x y z : Int) (a : Option Addr) (n c : Nat) (m0 e0 : Int) : Prop where
 p : w.heap[Ph]? = some (.cells #[.pointer (some ⟨Hb, 0, none⟩)] 144 (0, 0))
 h : w.heap[Hb]? = some (.cells (srC B vp vW vC left made) 146 (0, 0))
 r8 : w.heap[B8]? = some (.cells #[.string s, .int .i64 x, .int .i64 y, .int .i64 z, .slice a n c] 43 (0, 0))
 r9 : w.heap[B9]? = some (.cells #[.int .i64 m0] 3 (0, 0))
 r10 : w.heap[B10]? = some (.cells #[.int .i64 e0] 32 (0, 0))
theorem catch_panic (w : World) (Ph Hb B8 B9 B10 B : Nat) (vp vW vC : Value) (left made : Int) (s : ByteArray) (x y z : Int) (a : Option Addr) (n c : Nat) (m0 e0 : Int) (h : CatchAt w Ph Hb B8 B9 B10 B vp vW vC left made s x y z a n c m0 e0) :
  CallsD Tryz.prog 84 #[.pointer (some ⟨Ph, 0, none⟩), .pointer (some ⟨B8, 0, none⟩), .pointer (some ⟨B9, 0, none⟩), .pointer (some ⟨B10, 0, none⟩)] (.panicking stopC) w fun e u' w' =>
   e = .returned (.tuple #[]) ∧ u' = .panicking [{ v := .iface 148 (.agg #[]), recovered := true }] ∧ Ch [B8, B9, B10] w w' ∧ w'.heap[B8]? = some (.cells #[.string ⟨#[]⟩, .int .i64 0, .int .i64 0, .int .i64 0, .slice none 0 0] 43 (0, 0)) ∧ w'.heap[B9]? = some (.cells #[.int .i64 made] 3 (0, 0)) ∧ w'.heap[B10]? = some (.cells #[.int .i64 60] 32 (0, 0)) := by
 obtain ⟨w1, hw1, hb1, hx1, y1, y2⟩ := aBk w #[] 148
 have h1 : CatchAt w1 Ph Hb B8 B9 B10 B vp vW vC left made s x y z a n c m0 e0 := ⟨(hb1.block _ (loh h.p)).trans h.p, (hb1.block _ (loh h.h)).trans h.h, (hb1.block _ (loh h.r8)).trans h.r8, (hb1.block _ (loh h.r9)).trans h.r9, (hb1.block _ (loh h.r10)).trans h.r10⟩
 have hp := cOh h1.p 0
 have hm := cOh h1.h 5
 unfold srC at hm
 obtain ⟨f0, f1, f2, f3, f4⟩ := cells5 h1.r8
 have ff := foh h1.r8
 have g0 := cOh h1.r9 0
 have gf := foh h1.r9
 have k0 := cOh h1.r10 0
 have kf := foh h1.r10
 have n1 : ¬ B8 = B9 := heap_ne h1.r8 h1.r9 (by decide)
 have n2 : ¬ B8 = B10 := heap_ne h1.r8 h1.r10 (by decide)
 have n3 : ¬ B9 = B10 := heap_ne h1.r9 h1.r10 (by decide)
 have n4 : ¬ B9 = B8 := fun e => n1 e.symm
 have n5 : ¬ B10 = B8 := fun e => n2 e.symm
 have n6 : ¬ B10 = B9 := fun e => n3 e.symm
 have HH := hdL h1; have HB := hdL hb1; have HN := hdL (And.intro n1 (And.intro n2 n3))
 clear h h1 hb1 hx1 y1 y2
 refine callsD_of_wpS Tryz.func84 rfl fun c₀ cs hu => ?_
 unfold stopC at hu
 apply wpS_seq
 apply wpS_region
 simp [wpOpsS, go_sem, recoverD, hu, Tryz.ntmps84, Exit.thenS]
 refine wpS_of_wp ?_
 simp only [Array.replicate_succ, Array.replicate_zero, List.push_toArray, List.append_toArray, List.nil_append, List.cons_append, sqA, sqB, sqC]
 have hta : ∀ V : World, (Instr.typeAssert (.iface 148 (.agg #[])) 20 148 true).run Tryz.prog V = .ok (.tuple #[.agg #[], .bool true]) V := fun V => by kernel_rfl
 go_wp2_with fail
 obtain ⟨W, hW, hWc, hW8, hW9, hW10⟩ := three_set (Ch.of_below HB.out [B8, B9, B10]) HH.out.r8 HH.out.r9 HH.out.r10 HN.out.1 HN.out.2.1 HN.out.2.2 (.string ⟨#[]⟩) (.int .i64 0) (.int .i64 0) (.int .i64 0) (.slice none 0 0) (.int .i64 made) (.int .i64 60)
 rw [hW]
 clear hW hp hm f0 f1 f2 f3 f4 ff g0 gf k0 kf
 simp [bodyPostS, results, Tryz.results84]
 exact ⟨hWc, hW8, hW9, hW10⟩
theorem catch_idle (w : World) (a1 a2 a3 a4 : Value) :
  CallsD Tryz.prog 84 #[a1, a2, a3, a4] .returning w fun e u' w' => e = .returned (.tuple #[]) ∧ u' = .returning ∧ w' = w := by
 refine callsD_of_wpS Tryz.func84 rfl fun c₀ cs hu => ?_
 apply wpS_seq
 apply wpS_region
 simp [wpOpsS, go_sem, recoverD, hu, Tryz.ntmps84, Exit.thenS]
 refine wpS_of_wp ?_
 go_wp2_with fail
 cases c₀
 simp_all [bodyPostS, results, Tryz.results84]
theorem meetF_down {F : Dp → List Pk} {R : Pk → List Dp} {n b : Nat} {w : List Dp} {c : List Pk} {r : Res × Nat} (h : meetF F R n b w c = some r) : r.2 ≤ b := by
 obtain ⟨m, r', h', hl⟩ := meetF_ends F R b w c
 rw [meetF_det h h']
 exact hl
theorem tryF_ok {f : Nat → List Dp → List Pk → Option (Res × Nat)} (hle : ∀ b w c r, f b w c = some r → r.2 ≤ b) {R : Pk → List Dp} {rest : List Dp} {ch : List Pk} : ∀ (ps : List Pk) (b : Nat) (c : List Pk) (b' : Nat), tryF f R rest ch b ps = some (.ok c, b') →
  ∃ p ∈ ps, ∃ b1, b1 + 1 ≤ b ∧ f b1 (rest ++ R p) (ch ++ [p]) = some (.ok c, b')
 | [], b, c, b', h => by cases b <;> (unfold tryF at h; cases h)
 | p :: ps, 0, c, b', h => by unfold tryF at h; cases h
 | p :: ps, b + 1, c, b', h => by
  unfold tryF at h
  cases hf : f b (rest ++ R p) (ch ++ [p]) with
  | none => rw [hf] at h; cases h
  | some x =>
   rw [hf] at h
   obtain ⟨x, b2⟩ := x
   cases x with
   | ok c2 =>
    obtain ⟨rfl, rfl⟩ : c2 = c ∧ b2 = b' := by
     have := sIj h
     injection this with h1 h2
     injection h1 with h1
     exact ⟨h1, h2⟩
    exact ⟨p, mCs .., b, Nat.le_refl _, hf⟩
   | budget =>
    have := sIj h
    injection this with h1 h2
    cases h1
   | clash =>
    have hb2 := hle _ _ _ _ hf
    obtain ⟨q, hq, b1, h1, h2⟩ := tryF_ok hle ps b2 c b' h
    exact ⟨q, mCm _ hq, b1, by dsimp only at hb2; omega, h2⟩
theorem meetF_inv {F : Dp → List Pk} {R : Pk → List Dp} {I : List Dp → List Pk → Prop}
  (h1 : ∀ d rest ch p, ch.find? (fun q => decide (q.1 = d.1)) = some p → willB d p = true → I (d :: rest) ch → I rest ch)
  (h2 : ∀ d rest ch p, ch.find? (fun q => decide (q.1 = d.1)) = none → p ∈ F d → I (d :: rest) ch → I (rest ++ R p) (ch ++ [p])) :
  ∀ (n b : Nat) (ws : List Dp) (ch c : List Pk) (b' : Nat), meetF F R n b ws ch = some (.ok c, b') → I ws ch → I [] c ∧ b' + (c.length - ch.length) ≤ b ∧ ch.length ≤ c.length
 | 0, b, ws, ch, c, b', h, hi => by cases h
 | n + 1, b, [], ch, c, b', h, hi => by
  unfold meetF at h
  have := sIj h
  injection this with e1 e2
  injection e1 with e1
  subst e1 e2
  exact ⟨hi, by omega, Nat.le_refl _⟩
 | n + 1, b, d :: rest, ch, c, b', h, hi => by
  unfold meetF at h
  cases hf : ch.find? (fun p => decide (p.1 = d.1)) with
  | some p =>
   rw [hf] at h
   dsimp only at h
   split at h
   ·rename_i hw
    exact meetF_inv h1 h2 n b rest ch c b' h (h1 d rest ch p hf hw hi)
   ·have := sIj h
    injection this with e1 e2
    cases e1
  | none =>
   rw [hf] at h
   obtain ⟨p, hp, b1, hb1, h3⟩ := tryF_ok (fun b w c r h => meetF_down h) _ _ _ _ h
   obtain ⟨g1, g2, g3⟩ := meetF_inv h1 h2 n b1 _ _ c b' h3 (h2 d rest ch p hf hp hi)
   rw [lAp, lSg] at g2 g3
   exact ⟨g1, by omega, by omega⟩
theorem meet_names {F : Dp → List Pk} {R : Pk → List Dp} (hF : ∀ d, ∀ p ∈ F d, p.1 = d.1) {n b : Nat} {ws : List Dp} {c : List Pk} {b' : Nat} (h : meetF F R n b ws [] = some (.ok c, b')) : (c.map Prod.fst).Nodup := by
 refine (meetF_inv (I := fun _ ch => (ch.map Prod.fst).Nodup) (fun _ _ _ _ _ _ h => h) (fun d rest ch p hf hp hi => ?_) n b ws [] c b' h List.nodup_nil).1
 rw [List.map_append, List.nodup_append]
 refine ⟨hi, by simp, fun x hx y hy => ?_⟩
 obtain rfl : y = p.1 := by simpa using hy
 obtain ⟨q, hq, rfl⟩ := List.mem_map.1 hx
 have := List.find?_eq_none.1 hf q hq
 rw [hF d p hp]
 simpa using this
theorem fits_name {st : St} {pool : List Pk} {d : Dp} : ∀ p ∈ st.fitsP pool d, p.1 = d.1 := by
 intro p hp
 unfold St.fitsP St.fits at hp
 have h1 := List.mem_reverse.1 (List.mem_filter.1 hp).1
 have h2 := (List.mem_filter.1 h1).2
 unfold willB at h2
 rw [Bool.and_eq_true, decide_eq_true_eq] at h2
 exact h2.1
end Go.Proofs.YtaagkndhgicifaaGreat
