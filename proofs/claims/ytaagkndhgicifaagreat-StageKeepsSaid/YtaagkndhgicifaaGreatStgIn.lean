/- DERIVED. 'append' in a round of a range over a function; the pool, what stands below it, the last stage, as StageLeast keeps them. -/
import Derived.Test.YtaagkndhgicifaaGreatStgLw
import Derived.Test.YtaagkndhgicifaaGreatStgGetA
namespace Go.Proofs.YtaagkndhgicifaaGreat
open Go.RowKit
attribute [local go_sem] Oper.semAt_some
set_option linter.unusedVariables false
set_option maxRecDepth 100000
theorem wpListIn_append_c {F : Fence} {nF : Nat} {P : Program} {ops : Array Oper} {rest : List Oper} {o : Oper} {a : Act} {w : World} {Q : Exit → Act → World → Prop} (hgd : o.guard = none) (s x : Operand) (t tx : TypeId)
  (ho : o.op = .call { callee := .builtin .append, args := #[s, x], argTypes := #[t, tx] })
  (base : Nat) (e : TypeId) (i : TypeInfo) (z : Value) (size bytes : Nat) (ht : P.underlying t = some (.slice e)) (hi : P.info? e = some i) (hz : i.zero = some z)
  (hsize : i.size = size) (hby : i.bytes = bytes) (hzs : z.cells.size = size)
  (v : Value) (hv : a.eval s = v) (n : Nat) (xs : List Value) (hown : ownsC w base e size v n xs) (y : Value) (hy : a.eval x = y) (m : Nat) (news : List Value) (hs : Src P size tx y m news w)
  (h63 : n + m ≤ maxLen) (hbytes : (n + m) * bytes ≤ 140737488355328) (hbase : base ≤ w.heap.size)
  (h : ∀ a' c' w', ownsC w' base e size (.slice a' (n + m) c') (n + m) (xs ++ news) → w.grownBy w' v.ownBlock → ((Value.slice a' (n + m) c').ownBlock = v.ownBlock ∨ (Value.slice a' (n + m) c').ownBlock = some w.heap.size) → wpListIn F nF P ops Q rest (a.put o.dst (.slice a' (n + m) c')) w') : wpListIn F nF P ops Q (o :: rest) a w := by
 refine wpListIn_plain hgd fun K hK => ?_
 obtain ⟨v', w', hr, h2, h3, h4⟩ := run_append_c (P := P) w base t tx o.type e i z size bytes ht hi hz hsize hby hzs v n xs hown y m news hs h63 hbytes hbase
 obtain ⟨a', c', rfl, -⟩ := ownsC_form h2
 unfold Oper.wpIn
 refine ⟨by simp [Oper.about, ho, resolve, Target.leads, Sem.run_pure], ?_⟩
 rw [Oper.semAt_plain F _ _ (by rw [ho]; intro c hc'; cases hc')]
 unfold execOp
 simp only [ho, resolve, invoke, builtin, Sem.run_bind, Sem.run_pure, Result.andThen_ok, List.map_toArray, List.map_cons, List.map_nil, hv, hy, hr]
 exact hK _ _ (h a' c' w' h2 h3 h4)
def XNew (n0 : Nat) (k : Nat) (o : Obj) : Prop := n0 ≤ k
structure Lst (n0 : Nat) (V0 V : World) (b8 b9 b10 : Nat) (vp vb : Value) (last : Int) (ps bl : List Pk) : Prop where
 c8 : V.heap[b8]? = some (.cells #[vp] 22 (0, 0))
 c9 : V.heap[b9]? = some (.cells #[vb] 22 (0, 0))
 c10 : V.heap[b10]? = some (.cells #[.int .i64 last] 3 (0, 0))
 rows : PRows n0 V [(vp, ps), (vb, bl)]
 low : n0 ≤ b8 ∧ n0 ≤ b9 ∧ n0 ≤ b10 ∧ b8 ≠ b9 ∧ n0 ≤ V.heap.size
 ox : OnlyX (XNew n0) V0 V
 bel : Below n0 V0 V
variable {n0 b8 b9 b10 : Nat} {V0 V W : World} {vp vb vp' vb' : Value} {last : Int} {ps bl bl' : List Pk}
theorem Lst.below (h : Lst n0 V0 V b8 b9 b10 vp vb last ps bl) (hb : Below V.heap.size V W) : Lst n0 V0 W b8 b9 b10 vp vb last ps bl :=
 ⟨(hb.block _ (loh h.c8)).trans h.c8, (hb.block _ (loh h.c9)).trans h.c9, (hb.block _ (loh h.c10)).trans h.c10, h.rows.below hb, ⟨h.low.1, h.low.2.1, h.low.2.2.1, h.low.2.2.2.1, Nat.le_trans h.low.2.2.2.2 hb.size⟩, h.ox.trans (OnlyX.of_below hb), h.bel.trans (hb.mono h.low.2.2.2.2)⟩
theorem Lst.base (h : Lst n0 V0 V b8 b9 b10 vp vb last ps bl) : Lst n0 V V b8 b9 b10 vp vb last ps bl := ⟨h.c8, h.c9, h.c10, h.rows, h.low, OnlyX.refl _ _, Below.refl _ _⟩
theorem Lst.push {n : Nat} {q : Pk} (h : Lst n0 V0 V b8 b9 b10 vp vb last ps bl) (hn : ps.length = n) (hg : V.grownBy W vp.ownBlock) (ho : ownsC W n0 41 4 vp' (n + 1) (ps.flatMap pkL ++ pkL q)) (hw : vp'.ownBlock = vp.ownBlock ∨ vp'.ownBlock = some V.heap.size) :
  W.heap[b8]? = some (.cells #[vp] 22 (0, 0)) ∧ Lst n0 V0 (W.setCell ⟨b8, 0, none⟩ vp') b8 b9 b10 vp' vb last (ps ++ [q]) bl := by
 have h0 : PRow n0 V (vp, ps) := h.rows.own _ (mCs ..)
 have hk : KP 41 V W := KP.grown hg h0
 have k8 := hk _ _ _ _ (by decide) h.c8
 have hs : KP 22 W (W.setCell ⟨b8, 0, none⟩ vp') := KP.set k8
 have hr : PRow n0 W (vp', ps ++ [q]) := by show ownsC _ _ _ _ vp' _ _; rw [lAp, lSg, hn, List.flatMap_append, List.flatMap_singleton]; exact ho
 have hsz : V.heap.size ≤ (W.setCell ⟨b8, 0, none⟩ vp').heap.size := by simp [World.setCell]; exact hg.size
 refine ⟨k8, ⟨heap_setCell_here (i := 0) vp' k8, (bHs _ _ _ b9 (fun e => h.low.2.2.2.1 e.symm)).trans (hk _ _ _ _ (by decide) h.c9), hs _ _ _ _ (by decide) (hk _ _ _ _ (by decide) h.c10), (h.rows.push hg hr hw).kt (hs.kt (by decide)), ⟨h.low.1, h.low.2.1, h.low.2.2.1, h.low.2.2.2.1, Nat.le_trans h.low.2.2.2.2 hsz⟩, ?_, (h.bel.grown hg h.low.2.2.2.2 (fun k e => (oCk h0 e).1)).setCell (p := ⟨b8, 0, none⟩) h.low.1 _⟩⟩
 exact (h.ox.trans (OnlyX.of_grown hg (fun g o' e ho' => by
  obtain ⟨hb, cur, hc⟩ := oCk h0 e
  rw [hc] at ho'
  obtain rfl := sIj ho'
  exact ⟨rfl, hb⟩))).trans (OnlyX.set k8 rfl h.low.1)
theorem Lst.turnB (h : Lst n0 V0 V b8 b9 b10 vp vb last ps bl) (hb : Below V.heap.size V W) (hr : PRow V.heap.size W (vb', bl')) (l2 : Int) :
  W.heap[b9]? = some (.cells #[vb] 22 (0, 0)) ∧ (W.setCell ⟨b9, 0, none⟩ vb').heap[b10]? = some (.cells #[.int .i64 last] 3 (0, 0)) ∧ Lst n0 V0 ((W.setCell ⟨b9, 0, none⟩ vb').setCell ⟨b10, 0, none⟩ (.int .i64 l2)) b8 b9 b10 vp vb' l2 ps bl' := by
 have h1 := h.below hb
 have hs : KP 22 W (W.setCell ⟨b9, 0, none⟩ vb') := KP.set h1.c9
 have k10 := hs _ _ _ _ (by decide) h1.c10
 have hs2 : KP 3 (W.setCell ⟨b9, 0, none⟩ vb') ((W.setCell ⟨b9, 0, none⟩ vb').setCell ⟨b10, 0, none⟩ (.int .i64 l2)) := KP.set k10
 have hrows : PRows n0 W [(vp, ps), (vb', bl')] := ((h.rows.sub (rs' := [(vp, ps)]) ((List.nil_sublist _).cons_cons _)).new (KT.below hb) (ownsC_mono hr h.low.2.2.2.2) (fun g hg => (oCk hr hg).1)).perm (List.Perm.swap _ _ _)
 refine ⟨h1.c9, k10, ⟨hs2 _ _ _ _ (by decide) ((bHs _ _ _ b8 h.low.2.2.2.1).trans h1.c8), hs2 _ _ _ _ (by decide) (heap_setCell_here (i := 0) vb' h1.c9), heap_setCell_here (i := 0) _ k10, (hrows.kt (hs.kt (by decide))).kt (hs2.kt (by decide)), ⟨h.low.1, h.low.2.1, h.low.2.2.1, h.low.2.2.2.1, by have := h1.low.2.2.2.2; simp [World.setCell]; exact this⟩, ?_, (h1.bel.setCell (p := ⟨b9, 0, none⟩) h.low.2.1 _).setCell (p := ⟨b10, 0, none⟩) h.low.2.2.1 _⟩⟩
 exact (h1.ox.trans (OnlyX.set h1.c9 rfl h.low.2.1)).trans (OnlyX.set k10 rfl h.low.2.2.1)
theorem lastS_le {L : List Ent} (hs : Steps L) : ∀ k, lastS (L.take k) ≤ k
 | 0 => by simp [lastS]
 | k + 1 => by
  have ih := lastS_le hs k
  cases hk : L[k]? with
  | none =>
   have : L.length ≤ k := by rcases Nat.lt_or_ge k L.length with h | h; rw [gEg h] at hk; cases hk; exact h
   rw [tLe (by omega)]
   rw [tLe this] at ih
   omega
  | some x =>
   have h1 := (hs k x hk).2
   rw [List.take_add_one, hk]
   have h2 := lastS_snoc (L.take k) x
   have h3 : lastS (L.take k ++ [x]) = x.stage := h2
   show lastS (L.take k ++ [x]) ≤ _
   unfold prevS at h1
   rw [h3]
   omega
theorem prefix_at {α : Type} {l m : List α} {x : α} (h : l ++ [x] <+: m) : m[l.length]? = some x ∧ m.take l.length = l := by
 obtain ⟨t, rfl⟩ := h
 constructor
 ·rw [List.append_assoc, List.getElem?_append_right (Nat.le_refl _)]; simp
 ·rw [List.append_assoc, List.take_left' rfl]
theorem least_step {st : St} {L : List Ent} {l : List Pk} (h : FixR st 1 (seeds0 st) (less0 st) L l) {pre : List Ent} {x : Ent} (hp : pre ++ [x] <+: L) {bl : List Pk} (hb : 0 < lastS pre → bl = poolE L (lastS pre)) :
  ¬ x.stage < lastS pre ∧ ¬ lastS pre + 1 < x.stage ∧ 0 ≤ x.stage ∧ lastS pre ≤ pre.length ∧ (lastS pre < x.stage → pre.map Ent.pkg = poolE L x.stage) ∧ (¬ lastS pre < x.stage → 0 < x.stage → bl = poolE L x.stage) ∧
  (x.stage = 0 → st.isSeed x.pkg = true) ∧ (0 < x.stage → holdsB st x.pkg (poolE L x.stage) x.choice = true) ∧ inP (pre.map Ent.pkg) x.pkg = false ∧ lastS (pre ++ [x]) = x.stage := by
 obtain ⟨h1, h2⟩ := prefix_at hp
 have hx : x ∈ L := List.mem_of_getElem? h1
 obtain ⟨s1, s2⟩ := h.steps _ _ h1
 have hl := lastS_le h.steps pre.length
 rw [h2] at hl
 unfold prevS at s1 s2
 rw [h2] at s1 s2
 have h0 := h.stage0 hx
 refine ⟨by omega, by omega, h0, hl, fun hlt => ?_, fun hnl hpos => ?_, fun e => ?_, fun hpos => ?_, ?_, lastS_snoc _ _⟩
 ·have := h.below h1 (by unfold prevS; rw [h2]; exact hlt)
  rw [h2] at this
  exact this
 ·have e : x.stage = lastS pre := by omega
  rw [e]
  exact hb (by omega)
 ·rcases h.holds hx with ⟨-, h3⟩ | ⟨h3, -, -⟩
  ·exact h3
  ·omega
 ·rcases h.holds hx with ⟨h3, -⟩ | ⟨-, -, h3⟩
  ·omega
  ·exact h3
 ·have hn : (L.map Ent.pkg).Nodup := (List.nodup_append.1 h.nodup).1
  have hpm : pre.map Ent.pkg ++ [x.pkg] <+: L.map Ent.pkg := by
   obtain ⟨t, rfl⟩ := hp
   exact ⟨t.map Ent.pkg, by simp⟩
  have hn2 := hn.sublist hpm.sublist
  cases hi : inP (pre.map Ent.pkg) x.pkg with
  | false => rfl
  | true => exact absurd rfl ((List.nodup_append.1 hn2).2.2 _ (inP_iff.1 hi) _ (List.mem_singleton_self _))
end Go.Proofs.YtaagkndhgicifaaGreat
