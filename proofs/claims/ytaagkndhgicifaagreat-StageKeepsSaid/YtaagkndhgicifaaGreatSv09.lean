/- DERIVED. Texts of this claim, put together: RowC, SolM, RegV, SolE0, SolP. -/
import Derived.Test.YtaagkndhgicifaaGreatSv08
namespace Go.Proofs.YtaagkndhgicifaaGreat
open Go.RowKit Go.Sort
set_option linter.unusedVariables false
def ownsC (w : World) (base : Nat) (e : TypeId) (size : Nat) (v : Value) (n : Nat) (xs : List Value) : Prop :=
 xs.length = n * size ∧ ((v = .slice none 0 0 ∧ n = 0) ∨ ∃ g cap cur, v = .slice (some ⟨g, 0, none⟩) n cap ∧ base ≤ g ∧ w.heap[g]? = some (.cells cur e (0, 0)) ∧ n ≤ cap ∧ cap ≤ maxLen ∧ cap * size ≤ cur.size ∧ cur.toList.take (n * size) = xs)
theorem ownsC_of {w : World} {base : Nat} {e : TypeId} {size : Nat} {v : Value} {n : Nat} {xs : List Value} (h : w.ownsRow base e size v n xs) : ownsC w base e size v n xs := by
 refine ⟨h.1, ?_⟩
 rcases h.2 with h | ⟨g, cap, cur, h1, h2, h3, h4, h5, h6, h7⟩
 ·exact .inl h
 ·exact .inr ⟨g, cap, cur, h1, h2, h3, h4, h5, Nat.le_of_eq h6.symm, h7⟩
theorem ownsC_nil (w : World) (base : Nat) (e : TypeId) (size : Nat) : ownsC w base e size (.slice none 0 0) 0 [] := ⟨by simp, .inl ⟨rfl, rfl⟩⟩
theorem ownsC_form {w : World} {base : Nat} {e : TypeId} {size : Nat} {v : Value} {n : Nat} {xs : List Value} (h : ownsC w base e size v n xs) : ∃ a c, v = .slice a n c ∧ n ≤ c := by
 rcases h.2 with ⟨rfl, rfl⟩ | ⟨g, cap, cur, rfl, _, _, h4, _⟩
 ·exact ⟨none, 0, rfl, Nat.le_refl _⟩
 ·exact ⟨_, _, rfl, h4⟩
theorem oCk {w : World} {base : Nat} {e : TypeId} {size : Nat} {v : Value} {n : Nat} {xs : List Value} (h : ownsC w base e size v n xs) {g : Nat} (hg : v.ownBlock = some g) : base ≤ g ∧ ∃ cur, w.heap[g]? = some (.cells cur e (0, 0)) := by
 rcases h.2 with ⟨rfl, _⟩ | ⟨g', cap, cur, rfl, hb, hgb, _⟩
 ·cases hg
 ·obtain rfl : g' = g := by simpa [Value.ownBlock] using hg
  exact ⟨hb, cur, hgb⟩
theorem ownsC_keep {w w' : World} {base : Nat} {e : TypeId} {size : Nat} {v : Value} {n : Nat} {xs : List Value} (h : ownsC w base e size v n xs) (hk : ∀ g, v.ownBlock = some g → w'.heap[g]? = w.heap[g]?) : ownsC w' base e size v n xs := by
 refine ⟨h.1, ?_⟩
 rcases h.2 with h2 | ⟨g, cap, cur, rfl, h2, h3, h4⟩
 ·exact .inl h2
 ·exact .inr ⟨g, cap, cur, rfl, h2, (hk g rfl).trans h3, h4⟩
theorem ownsC_below {w w' : World} {base : Nat} {e : TypeId} {size : Nat} {v : Value} {n : Nat} {xs : List Value} (h : ownsC w base e size v n xs) (hb : Below w.heap.size w w') : ownsC w' base e size v n xs :=
 ownsC_keep h (fun g hg => by obtain ⟨_, cur, hc⟩ := oCk h hg; exact hb.block g (loh hc))
theorem ownsC_cut {w : World} {base : Nat} {e : TypeId} {size n m : Nat} {a : Option Addr} {c : Nat} {xs : List Value} (h : ownsC w base e size (.slice a n c) n xs) (hm : m ≤ n) : ownsC w base e size (.slice a m m) m (xs.take (m * size)) := by
 have hl : (xs.take (m * size)).length = m * size := by
  rw [List.length_take, h.1]
  exact Nat.min_eq_left (Nat.mul_le_mul_right size hm)
 refine ⟨hl, ?_⟩
 rcases h.2 with ⟨e1, e2⟩ | ⟨g, cap, cur, e1, h2, h3, h4, h5, h6, h7⟩
 ·obtain ⟨rfl, _, _⟩ := Value.slice.inj e1
  obtain rfl : m = 0 := by omega
  exact .inl ⟨rfl, rfl⟩
 ·obtain ⟨rfl, _, rfl⟩ := Value.slice.inj e1
  refine .inr ⟨g, m, cur, rfl, h2, h3, Nat.le_refl _, by omega, Nat.le_trans (Nat.mul_le_mul_right size (by omega)) h6, ?_⟩
  rw [← h7, List.take_take, Nat.min_eq_left (Nat.mul_le_mul_right size hm)]
theorem ownsC_cells {w : World} {base : Nat} {e : TypeId} {size : Nat} {v : Value} {n : Nat} {xs : List Value} (h : ownsC w base e size v n xs) {g : Nat} (hg : v.ownBlock = some g) : ∀ j u, xs[j]? = some u → w.cell? ⟨g, j, none⟩ = some u := by
 intro j u hj
 rcases h.2 with ⟨rfl, _⟩ | ⟨g', cap, cur, rfl, hb, hgb, _, _, _, ht⟩
 ·cases hg
 ·obtain rfl : g' = g := by simpa [Value.ownBlock] using hg
  rw [cOh hgb]
  rw [← ht, List.getElem?_take] at hj
  split at hj
  ·rw [← Array.getElem?_toList]; exact hj
  ·cases hj
theorem run_append_c {P : Program} (w : World) (base : Nat) (t tx ty e : TypeId) (i : TypeInfo) (z : Value) (size bytes : Nat) (ht : P.underlying t = some (.slice e)) (hi : P.info? e = some i) (hz : i.zero = some z)
  (hsize : i.size = size) (hby : i.bytes = bytes) (hzs : z.cells.size = size)
  (v : Value) (n : Nat) (xs : List Value) (hown : ownsC w base e size v n xs) (x : Value) (m : Nat) (news : List Value) (hs : Src P size tx x m news w)
  (h63 : n + m ≤ maxLen) (hbytes : (n + m) * bytes ≤ 140737488355328) (hbase : base ≤ w.heap.size) :
  ∃ v' w', (Builtin.append_ #[t, tx] ty #[v, x]).run P w = .ok v' w' ∧ ownsC w' base e size v' (n + m) (xs ++ news) ∧ w.grownBy w' v.ownBlock ∧ (v'.ownBlock = v.ownBlock ∨ v'.ownBlock = some w.heap.size) := by
 subst hsize
 subst hby
 have hsmall : n + m ≤ 9223372036854775807 := by simp only [maxLen] at h63; omega
 have hl := hs.newsLen
 have hlen : (xs ++ news).length = (n + m) * i.size := by rw [lAp, hown.1, hl, Nat.add_mul]
 have grown : ∀ (old : Nat), old < n + m → ∀ (row : Option Nat),
   ownsC (w.drew.alloc (.cells ((xs ++ news).toArray ++ Builtin.zeroCells z.cells (grownCap w (n + m) old e - (n + m))) e)) base e i.size
    (.slice (some ⟨w.heap.size, 0, none⟩) (n + m) (grownCap w (n + m) old e)) (n + m) (xs ++ news) ∧
   w.grownBy (w.drew.alloc (.cells ((xs ++ news).toArray ++ Builtin.zeroCells z.cells (grownCap w (n + m) old e - (n + m))) e)) row := by
  intro old ho row
  have hge := grownCap_ge w (n + m) old e
  have hcm : grownCap w (n + m) old e ≤ maxLen := grownCap_le_maxLen w (n + m) old e h63
  refine ⟨⟨hlen, .inr ⟨w.heap.size, _, _, rfl, hbase, heap_alloc_new w.drew _, hge, hcm, ?_, ?_⟩⟩, ⟨rfl, rfl, rfl, by simp, fun k hk _ => heap_alloc_old w.drew _ hk⟩⟩
  ·refine Nat.le_of_eq ?_
   simp only [Array.size_append, List.size_toArray, size_zeroCells, hzs, hlen, ← Nat.add_mul]
   congr 1
   omega
  ·simp only [Array.toList_append]
   rw [← hlen]
   exact List.take_left
 rcases hown.2 with ⟨rfl, rfl⟩ | ⟨g, cap, cur, rfl, hbg, hg, hnc, hcm, hcs, htake⟩
 ·have hx : xs = [] := eN0 (by simpa using hown.1)
  subst hx
  by_cases hm : m = 0
  ·subst hm
   have hn : news = [] := eN0 (by simpa using hl)
   subst hn
   refine ⟨.slice none 0 0, w, ?_, ownsC_nil w base e i.size, ⟨rfl, rfl, rfl, Nat.le_refl _, fun _ _ _ => rfl⟩, .inl rfl⟩
   rcases hs.kind with ⟨e', hk⟩ | hk <;> simp [Builtin.append_, run_underlying ht, run_underlying hk, sizeOf, typeInfo, hi, hs.len, hs.cells]
  ·have hr := run_append_grow_src (P := P) w t tx ty e i z ht hi hz none 0 0 [] (run_firstCells_none w.drew i.size 0 0 0) x m news hs (by omega) (by omega) (growslice_fits (by omega) hbytes)
   have hgr := grown 0 (by omega) (Value.ownBlock (.slice none 0 0))
   simp only [Nat.zero_add, List.nil_append] at hgr hr ⊢
   exact ⟨_, _, hr, hgr.1, hgr.2, .inr rfl⟩
 ·by_cases hroom : n + m ≤ cap
  ·have hfit : n * i.size + news.length ≤ cur.size := by rw [hl, ← Nat.add_mul]; exact Nat.le_trans (Nat.mul_le_mul_right _ hroom) hcs
   have hst := run_storeCells_at P g (n * i.size) e news 0 cur w hg (by simpa using hfit) hs.one
   simp only [Nat.add_zero] at hst
   have hr : (Builtin.append_ #[t, tx] ty #[.slice (some ⟨g, 0, none⟩) n cap, x]).run P w = .ok (.slice (some ⟨g, 0, none⟩) (n + m) cap) (w.setRow g (cur.toList.take (n * i.size) ++ news ++ cur.toList.drop (n * i.size + news.length)).toArray) := by
    rcases hs.kind with ⟨e', hk⟩ | hk <;> simp [Builtin.append_, run_underlying ht, run_underlying hk, sizeOf, typeInfo, hi, hs.len, hroom, hs.cells, Addr.add_lit, hst]
   refine ⟨_, _, hr, ⟨hlen, .inr ⟨g, cap, _, rfl, hbg, setRow_heap w g cur _ e _ hg, hroom, hcm, ?_, ?_⟩⟩, ⟨rfl, rfl, rfl, by simp, fun k _ hk => setRow_other w g k _ (fun e => hk (by simp [Value.ownBlock, e]))⟩, .inl rfl⟩
   ·simp only [List.size_toArray, lAp, List.length_take, List.length_drop, Array.length_toList]
    omega
   ·rw [htake, ← hlen]
    exact List.take_left
  ·have holds : ∀ j u, xs[j]? = some u → w.drew.cell? ((⟨g, 0, none⟩ : Addr).add j) = some u := fun j u hj => by
    rw [Addr.add_lit, Nat.zero_add]
    exact ownsC_cells hown (g := g) rfl j u hj
   have hr := run_append_grow_src (P := P) w t tx ty e i z ht hi hz (some ⟨g, 0, none⟩) n cap xs (run_firstCells_some w.drew i.size n ⟨g, 0, none⟩ n cap xs hown.1 holds) x m news hs (by omega) (by omega) (growslice_fits (by omega) hbytes)
   have hgr := grown cap (by omega) (Value.ownBlock (.slice (some ⟨g, 0, none⟩) n cap))
   exact ⟨_, _, hr, hgr.1, hgr.2, .inr rfl⟩
theorem step_append_c {P : Program} {ops : Array Oper} {o : Oper} {a : Act} {w : World} {K : Act → World → Prop} {Q : Exit → Act → World → Prop} {E : Prop}
  (hg : o.guard = none) (s x : Operand) (t tx : TypeId) (hop : o.op = Op.call { callee := Callee.builtin Builtin.append, args := #[s, x], argTypes := #[t, tx] })
  (base : Nat) (e : TypeId) (i : TypeInfo) (z : Value) (size bytes : Nat) (ht : P.underlying t = some (.slice e)) (hi : P.info? e = some i) (hz : i.zero = some z)
  (hsize : i.size = size) (hby : i.bytes = bytes) (hzs : z.cells.size = size)
  (v : Value) (hv : a.eval s = v) (n : Nat) (xs : List Value) (hown : ownsC w base e size v n xs) (y : Value) (hy : a.eval x = y) (m : Nat) (news : List Value) (hs : Src P size tx y m news w)
  (h63 : n + m ≤ maxLen) (hbytes : (n + m) * bytes ≤ 140737488355328) (hbase : base ≤ w.heap.size)
  (hK : ∀ a' c' w', ownsC w' base e size (.slice a' (n + m) c') (n + m) (xs ++ news) → w.grownBy w' v.ownBlock → ((Value.slice a' (n + m) c').ownBlock = v.ownBlock ∨ (Value.slice a' (n + m) c').ownBlock = some w.heap.size) → K (a.put o.dst (.slice a' (n + m) c')) w') :
  if Region.wanted o (yielded ops a.tmps) = true then Oper.wp P o a w K Q else E := by
 have hw : Region.wanted o (yielded ops a.tmps) = true := by simp [Region.wanted, hg]
 rw [if_pos hw]
 obtain ⟨v', w', hr, h2, h3, h4⟩ := run_append_c (P := P) w base t tx o.type e i z size bytes ht hi hz hsize hby hzs v n xs hown y m news hs h63 hbytes hbase
 obtain ⟨a', c', rfl, -⟩ := ownsC_form h2
 unfold Oper.wp
 simp [execOp, hop, resolve, invoke, builtin, hv, hy, hr, Result.andThen]
 exact hK a' c' w' h2 h3 h4
open Go.RowKit
def WantsAt (Z : Zone) (w : World) (xs : List Value) (ws : List Dp) : Prop := ∀ i d, ws[i]? = some d → ∃ v0 v1, xs[i * 2]? = some v0 ∧ xs[i * 2 + 1]? = some v1 ∧ DepAt Z w v0 v1 d
theorem WantsAt.keep {Z Z' : Zone} {w w' : World} {xs : List Value} {ws : List Dp} (h : WantsAt Z w xs ws) (hk : Keep Z Z' w w') : WantsAt Z' w' xs ws := fun i d hi => by
 obtain ⟨v0, v1, h1, h2, h3⟩ := h i d hi
 exact ⟨v0, v1, h1, h2, h3.keep hk⟩
theorem WantsAt.app {Z : Zone} {w : World} {xs ys : List Value} {ws ds : List Dp} (h : WantsAt Z w xs ws) (g : WantsAt Z w ys ds) (hl : xs.length = ws.length * 2) : WantsAt Z w (xs ++ ys) (ws ++ ds) := by
 intro i d hi
 rcases Nat.lt_or_ge i ws.length with hl1 | hl1
 ·rw [List.getElem?_append_left hl1] at hi
  obtain ⟨v0, v1, h1, h2, h3⟩ := h i d hi
  exact ⟨v0, v1, by rw [List.getElem?_append_left (by omega)]; exact h1, by rw [List.getElem?_append_left (by omega)]; exact h2, h3⟩
 ·rw [List.getElem?_append_right hl1] at hi
  obtain ⟨v0, v1, h1, h2, h3⟩ := g _ d hi
  refine ⟨v0, v1, ?_, ?_, h3⟩
  ·rw [List.getElem?_append_right (by omega), hl, ← Nat.sub_mul]; exact h1
  ·rw [List.getElem?_append_right (by omega), hl, show i * 2 + 1 - ws.length * 2 = (i - ws.length) * 2 + 1 from by omega]; exact h2
theorem WantsAt.cut {Z : Zone} {w : World} {xs : List Value} {ws ds : List Dp} (h : WantsAt Z w xs (ws ++ ds)) : WantsAt Z w (xs.take (ws.length * 2)) ws := by
 intro i d hi
 have hl := (gEs.1 hi).1
 obtain ⟨v0, v1, h1, h2, h3⟩ := h i d (by rw [List.getElem?_append_left hl]; exact hi)
 exact ⟨v0, v1, by rw [List.getElem?_take_of_lt (by omega)]; exact h1, by rw [List.getElem?_take_of_lt (by omega)]; exact h2, h3⟩
theorem DepsAt.rows {Z : Zone} {w : World} {v : Value} {ds : List Dp} (h : DepsAt Z w v ds) : ∃ ys : List Value, ys.length = ds.length * 2 ∧ WantsAt Z w ys ds ∧ (∀ u ∈ ys, u.oneCell' = true) ∧ ∃ a c, v = .slice a ds.length c ∧ Bnd ds.length c a ∧ (ds ≠ [] → ∃ b o, a = some ⟨b, o, none⟩ ∧ Z b ∧ b < w.heap.size ∧ ∀ j u, ys[j]? = some u → w.cell? ⟨b, o + j, none⟩ = some u) := by
 obtain ⟨a, c, rfl, hb, hc⟩ := h
 cases hds : ds with
 | nil => exact ⟨[], rfl, (fun i d hi => by simp at hi), (fun u hu => by cases hu), a, c, rfl, by rw [hds] at hb; exact hb, fun e => absurd rfl e⟩
 | cons d0 ds0 =>
  rw [← hds]
  obtain ⟨b, o, rfl, hz, hl, hcs⟩ := hc (by rw [hds]; exact List.cons_ne_nil _ _)
  have key : ∀ (n : Nat), n ≤ ds.length → ∃ ys : List Value, ys.length = n * 2 ∧ WantsAt Z w ys (ds.take n) ∧ (∀ u ∈ ys, u.oneCell' = true) ∧ ∀ j u, ys[j]? = some u → w.cell? ⟨b, o + j, none⟩ = some u := by
   intro n
   induction n with
   | zero => intro _; exact ⟨[], rfl, (fun i d hi => by simp at hi), (fun u hu => by cases hu), fun j u hj => by simp at hj⟩
   | succ n ih =>
    intro hn
    obtain ⟨ys, h1, h2, h3, h4⟩ := ih (by omega)
    have hdn := gEg (l := ds) (i := n) (by omega)
    obtain ⟨v0, v1, g0, g1, g2⟩ := hcs n _ hdn
    refine ⟨ys ++ [v0, v1], by simp [h1]; omega, ?_, ?_, ?_⟩
    ·rw [List.take_add_one, hdn]
     refine h2.app ?_ (by rw [h1, List.length_take, Nat.min_eq_left (by omega)])
     intro i d hi
     cases i with
     | zero =>
      obtain rfl : ds[n] = d := by simpa using hi
      exact ⟨v0, v1, rfl, rfl, g2⟩
     | succ i => simp at hi
    ·intro u hu
     rcases List.mem_append.1 hu with hu | hu
     ·exact h3 u hu
     ·obtain ⟨a1, c1, e1, -⟩ := g2.2.2
      rcases List.mem_cons.1 hu with rfl | hu
      ·rw [g2.1]; rfl
      ·obtain rfl := mSg.1 hu
       rw [e1]; rfl
    ·intro j u hj
     rcases Nat.lt_or_ge j ys.length with hjl | hjl
     ·rw [List.getElem?_append_left hjl] at hj; exact h4 j u hj
     ·rw [List.getElem?_append_right hjl] at hj
      rcases Nat.eq_or_lt_of_le hjl with e | e
      ·rw [← e, Nat.sub_self] at hj
       obtain rfl : v0 = u := by simpa using hj
       rw [← e, h1]; exact g0
      ·rcases Nat.eq_or_lt_of_le e with e2 | e2
       ·rw [← e2, show ys.length + 1 - ys.length = 1 from by omega] at hj
        obtain rfl : v1 = u := by simpa using hj
        rw [← e2, h1]; exact g1
       ·rw [List.getElem?_eq_none (by simp; omega)] at hj
        cases hj
  obtain ⟨ys, h1, h2, h3, h4⟩ := key ds.length (Nat.le_refl _)
  rw [List.take_length] at h2
  exact ⟨ys, h1, h2, h3, _, c, rfl, hb, fun _ => ⟨b, o, rfl, hz, hl, h4⟩⟩
theorem src_deps {Z : Zone} {w : World} {v : Value} {ds : List Dp} (h : DepsAt Z w v ds) : ∃ ys : List Value, ys.length = ds.length * 2 ∧ WantsAt Z w ys ds ∧ ∀ W, Keep Z zAll w W → Src Tryz.prog 2 60 v ds.length ys W := by
 obtain ⟨ys, h1, h2, h3, a, c, rfl, hb, h4⟩ := h.rows
 refine ⟨ys, h1, h2, fun W hW => ?_⟩
 cases a with
 | none =>
  obtain ⟨e1, rfl⟩ := hb.nil rfl
  obtain rfl : ds = [] := eN0 e1
  obtain rfl : ys = [] := eN0 h1
  exact Src.ofNil W Tryz.underlying60 0
 | some ad =>
  refine Src.ofSlice W Tryz.underlying60 ad ds.length c ys h1 (fun j u hj => ?_) h3
  have hne : ds ≠ [] := fun e => by
   subst e
   obtain rfl : ys = [] := eN0 h1
   simp at hj
  obtain ⟨b, o, e, hz, hl, hcs⟩ := h4 hne
  obtain rfl := sIj e
  rw [Addr.add_lit]
  exact hW.cell _ _ hz (hcs j u hj)
def zSr (Hb : Nat) (vW vC : Value) : Zone := fun b => b ≠ Hb ∧ vW.ownBlock ≠ some b ∧ vC.ownBlock ≠ some b
structure SrAt (w : World) (Hb B base : Nat) (vp : Value) (left : Int) (ws : List Dp) (ch : List Pk) (made : Int) (vW vC : Value) (xs : List Value) : Prop where
 cells : w.heap[Hb]? = some (.cells (srC B vp vW vC left made) 146 (0, 0))
 hb : base ≤ Hb
 wown : ownsC w base 59 2 vW ws.length xs
 wcont : WantsAt (zSr Hb vW vC) w xs ws
 cown : ownsC w base 41 4 vC ch.length (ch.flatMap pkL)
def srF (Hb : Nat) (vW vC : Value) : List Nat := Hb :: (vW.ownBlock.toList ++ vC.ownBlock.toList)
theorem mem_srF {Hb : Nat} {vW vC : Value} {k : Nat} : k ∈ srF Hb vW vC ↔ k = Hb ∨ vW.ownBlock = some k ∨ vC.ownBlock = some k := by
 unfold srF
 simp [Option.mem_toList]
section
variable {w w' : World} {Hb B base : Nat} {vp vW vC vW' vC' : Value} {left made : Int} {ws : List Dp} {ch : List Pk} {xs : List Value}
theorem SrAt.base_le (h : SrAt w Hb B base vp left ws ch made vW vC xs) : ∀ k ∈ srF Hb vW vC, base ≤ k := by
 intro k hk
 rcases mem_srF.1 hk with rfl | hk | hk
 ·exact h.hb
 ·exact (oCk h.wown hk).1
 ·exact (oCk h.cown hk).1
theorem SrAt.lt (h : SrAt w Hb B base vp left ws ch made vW vC xs) : ∀ k ∈ srF Hb vW vC, k < w.heap.size := by
 intro k hk
 rcases mem_srF.1 hk with rfl | hk | hk
 ·exact loh h.cells
 ·obtain ⟨_, _, h2⟩ := oCk h.wown hk; exact loh h2
 ·obtain ⟨_, _, h2⟩ := oCk h.cown hk; exact loh h2
theorem heap_ne {b b' : Nat} {c c' : Array Value} {t t' : TypeId} {f f' : Nat × Nat} (h : w.heap[b]? = some (.cells c t f)) (h' : w.heap[b']? = some (.cells c' t' f')) (ht : t ≠ t') : b ≠ b' := by
 rintro rfl
 rw [h] at h'
 exact ht (Obj.cells.inj (sIj h')).2.1
theorem SrAt.apart (h : SrAt w Hb B base vp left ws ch made vW vC xs) : vW.ownBlock ≠ some Hb ∧ vC.ownBlock ≠ some Hb ∧ ∀ g, vW.ownBlock = some g → vC.ownBlock ≠ some g := by
 refine ⟨fun e => ?_, fun e => ?_, fun g e e' => ?_⟩
 ·obtain ⟨_, _, h2⟩ := oCk h.wown e
  exact heap_ne h2 h.cells (by decide) rfl
 ·obtain ⟨_, _, h2⟩ := oCk h.cown e
  exact heap_ne h2 h.cells (by decide) rfl
 ·obtain ⟨_, _, h2⟩ := oCk h.wown e
  obtain ⟨_, _, h3⟩ := oCk h.cown e'
  exact heap_ne h2 h3 (by decide) rfl
theorem SrAt.below (h : SrAt w Hb B base vp left ws ch made vW vC xs) (hb : Below w.heap.size w w') : SrAt w' Hb B base vp left ws ch made vW vC xs :=
 ⟨(hb.block _ (loh h.cells)).trans h.cells, h.hb, ownsC_below h.wown hb, h.wcont.keep (Keep.below hb), ownsC_below h.cown hb⟩
theorem SrAt.count (h : SrAt w Hb B base vp left ws ch made vW vC xs) {made' : Int} (hc : w'.heap[Hb]? = some (.cells (srC B vp vW vC left made') 146 (0, 0))) (hch : Ch [Hb] w w') : SrAt w' Hb B base vp left ws ch made' vW vC xs := by
 obtain ⟨a1, a2, a3⟩ := h.apart
 refine ⟨hc, h.hb, ownsC_keep h.wown (fun g hg => ?_), h.wcont.keep (Keep.of_block (fun b _ hz => hz) hch.size (fun b hl hz => hch.block b hl (by rw [mSg]; exact hz.1))), ownsC_keep h.cown (fun g hg => ?_)⟩
 ·refine hch.block g (h.lt g (mem_srF.2 (.inr (.inl hg)))) ?_
  rw [mSg]
  rintro rfl
  exact a1 hg
 ·refine hch.block g (h.lt g (mem_srF.2 (.inr (.inr hg)))) ?_
  rw [mSg]
  rintro rfl
  exact a2 hg
theorem SrAt.push {p : Pk} {ds : List Dp} {ys : List Value} {n0 : Nat} (h : SrAt w Hb B base vp left ws ch made vW vC xs) (hc : w'.heap[Hb]? = some (.cells (srC B vp vW' vC' left made) 146 (0, 0)))
  (hw : ownsC w' base 59 2 vW' (ws.length + ds.length) (xs ++ ys)) (hcn : ownsC w' base 41 4 vC' (ch.length + 1) (ch.flatMap pkL ++ pkL p)) (hch : Ch (srF Hb vW vC) w w')
  (o1 : vW'.ownBlock = vW.ownBlock ∨ ∃ g, vW'.ownBlock = some g ∧ w.heap.size ≤ g) (o2 : vC'.ownBlock = vC.ownBlock ∨ ∃ g, vC'.ownBlock = some g ∧ w.heap.size ≤ g)
  (hy : WantsAt (fun b => n0 ≤ b ∧ b < w.heap.size) w ys ds) (hn : ∀ k ∈ srF Hb vW vC, k < n0) : SrAt w' Hb B base vp left (ws ++ ds) (ch ++ [p]) made vW' vC' (xs ++ ys) := by
 have hz : ∀ b, b < w.heap.size → zSr Hb vW vC b → zSr Hb vW' vC' b := fun b hl hz => by
  refine ⟨hz.1, fun e => ?_, fun e => ?_⟩
  ·rcases o1 with o | ⟨g, o, hg⟩
   ·rw [o] at e; exact hz.2.1 e
   ·rw [o] at e; obtain rfl := sIj e; omega
  ·rcases o2 with o | ⟨g, o, hg⟩
   ·rw [o] at e; exact hz.2.2 e
   ·rw [o] at e; obtain rfl := sIj e; omega
 have hblk : ∀ b, b < w.heap.size → zSr Hb vW vC b → w'.heap[b]? = w.heap[b]? := fun b hl hz => hch.block b hl (fun hm => by
  rcases mem_srF.1 hm with e | e | e
  ·exact hz.1 e
  ·exact hz.2.1 e
  ·exact hz.2.2 e)
 have hnz : ∀ b, n0 ≤ b → zSr Hb vW vC b := fun b hb => ⟨fun e => by have := hn Hb (mem_srF.2 (.inl rfl)); omega, fun e => by have := hn b (mem_srF.2 (.inr (.inl e))); omega, fun e => by have := hn b (mem_srF.2 (.inr (.inr e))); omega⟩
 refine ⟨hc, h.hb, by rw [lAp]; exact hw, (h.wcont.keep (Keep.of_block hz hch.size hblk)).app (hy.keep (Keep.of_block (fun b hl hz' => hz b hl (hnz b hz'.1)) hch.size (fun b hl hz' => hblk b hl (hnz b hz'.1)))) h.wown.1, ?_⟩
 rw [lAp, List.flatMap_append, lSg]
 simpa using hcn
theorem own_len (a : Option Addr) (n c m d : Nat) : (Value.slice a n c).ownBlock = (Value.slice a m d).ownBlock := by cases a <;> rfl
theorem SrAt.pop {ds : List Dp} {ps : List Pk} {aW aC : Option Addr} {nW cW nC cC : Nat} {xs' : List Value} (h : SrAt w Hb B base vp left (ws ++ ds) (ch ++ ps) made (.slice aW nW cW) (.slice aC nC cC) xs') (hc : w'.heap[Hb]? = some (.cells (srC B vp (.slice aW ws.length ws.length) (.slice aC ch.length ch.length) left made) 146 (0, 0)))
  (hch : Ch [Hb] w w') : SrAt w' Hb B base vp left ws ch made (.slice aW ws.length ws.length) (.slice aC ch.length ch.length) (xs'.take (ws.length * 2)) := by
 obtain ⟨a1, a2, a3⟩ := h.apart
 have hw1 := h.wown
 have hc1 := h.cown
 rw [lAp] at hw1 hc1
 obtain ⟨_, _, e1, -⟩ := ownsC_form hw1
 obtain ⟨_, _, e2, -⟩ := ownsC_form hc1
 obtain ⟨-, rfl, -⟩ := Value.slice.inj e1
 obtain ⟨-, rfl, -⟩ := Value.slice.inj e2
 have hcw := ownsC_cut hw1 (m := ws.length) (by omega)
 have hcc := ownsC_cut hc1 (m := ch.length) (by omega)
 have e4 : ((ch ++ ps).flatMap pkL).take (ch.length * 4) = ch.flatMap pkL := by
  rw [List.flatMap_append, ← flat_len pkL_len ch, List.take_left]
 rw [e4] at hcc
 have hzz : ∀ b, zSr Hb (Value.slice aW (ws.length + ds.length) cW) (Value.slice aC (ch.length + ps.length) cC) b → zSr Hb (Value.slice aW ws.length ws.length) (Value.slice aC ch.length ch.length) b := fun b hz => ⟨hz.1, by rw [own_len aW _ _ (ws.length + ds.length) cW]; exact hz.2.1, by rw [own_len aC _ _ (ch.length + ps.length) cC]; exact hz.2.2⟩
 refine ⟨hc, h.hb, ownsC_keep hcw (fun g hg => ?_), h.wcont.cut.keep (Keep.of_block (fun b _ hz => hzz b hz) hch.size (fun b hl hz => hch.block b hl (by rw [mSg]; exact hz.1))), ownsC_keep hcc (fun g hg => ?_)⟩
 ·rw [own_len aW _ _ (ws.length + ds.length) cW] at hg
  refine hch.block g (h.lt g (mem_srF.2 (.inr (.inl hg)))) ?_
  rw [mSg]
  rintro rfl
  exact a1 hg
 ·rw [own_len aC _ _ (ch.length + ps.length) cC] at hg
  refine hch.block g (h.lt g (mem_srF.2 (.inr (.inr hg)))) ?_
  rw [mSg]
  rintro rfl
  exact a2 hg
theorem pkgs_ownsC {w : World} {base n : Nat} {e : TypeId} {v : Value} {ps : List Pk} (h : ownsC w base e 4 v n (ps.flatMap pkL)) (hn : n = ps.length) (hm : ps.length ≤ 8796093022208) : PkgsAt (fun b => v.ownBlock = some b) w v ps := by
 subst hn
 rcases h.2 with ⟨rfl, h0⟩ | ⟨g, cap, cur, rfl, hbase, hb, h1, h2, h3, h4⟩
 ·refine ⟨none, 0, by rw [h0], ⟨by omega, by omega, by unfold maxLen; omega, fun _ => ⟨h0, rfl⟩⟩, fun hne => absurd (eN0 h0) hne⟩
 ·refine ⟨some ⟨g, 0, none⟩, cap, rfl, ⟨h1, hm, h2, fun e => by cases e⟩, fun hne => ⟨g, 0, rfl, rfl, loh hb, fun i p hi j u hj => ?_⟩⟩
  have hj4 : j < 4 := by have := (gEs.1 hj).1; rwa [pkL_len] at this
  have hk := flat_at pkL_len ps i p hi j hj4
  rw [Nat.zero_add]
  exact ownsC_cells h rfl _ u (by rw [hk]; exact hj)
end
section
variable {P : Program} {ops : Array Oper} {Q : Exit → Act → World → Prop} {md : Region.Mode}
def OweL (Ss : List (Nat × (World → Prop))) (listed : Array Bool) (w : World) : Prop := ∀ p ∈ Ss, listed.getD p.1 true = false → p.2 w
theorem owe_all {Ss : List (Nat × (World → Prop))} {listed : Array Bool} {w : World} (h : ∀ p ∈ Ss, p.2 w) : OweL Ss listed w := fun p hp _ => h p hp
theorem owe2 {k1 k2 : Nat} {A1 A2 : World → Prop} {listed : Array Bool} {w : World} (h1 : listed.getD k1 true = false → A1 w) (h2 : listed.getD k2 true = false → A2 w) : OweL [(k1, A1), (k2, A2)] listed w := by
 intro p hp
 rcases List.mem_cons.1 hp with rfl | hp
 ·exact h1
 ·obtain rfl := mSg.1 hp
  exact h2
theorem owe1 {k1 : Nat} {A1 : World → Prop} {listed : Array Bool} {w : World} (h1 : listed.getD k1 true = false → A1 w) : OweL [(k1, A1)] listed w := by
 intro p hp
 obtain rfl := mSg.1 hp
 exact h1
def UpV (P : Program) (md : Region.Mode) (ops : Array Oper) (Q : Exit → Act → World → Prop) (Ss : List (Nat × (World → Prop))) : Nat → Array Bool → Act → World → Prop
 | 0, listed, a, w => Region.ready md ops listed = [] ∧ Q .normal a w
 | fuel + 1, listed, a, w =>
  (Region.ready md ops listed = [] → Q .normal a w) ∧
  ∀ i ∈ Region.ready md ops listed, wpOp P ops Q i (fun a' w' => OweL Ss (listed.setIfInBounds i true) w' ∧ UpV P md ops Q Ss fuel (listed.setIfInBounds i true) a' w') a w
variable {Ss : List (Nat × (World → Prop))}
theorem UpV.any : ∀ (fuel : Nat) (listed : Array Bool) (a : Act) (w : World), UpV P md ops Q Ss fuel listed a w → wpAny P md ops Q fuel listed a w
 | 0, _, _, _, h => h
 | fuel + 1, _, _, _, h => ⟨h.1, fun i hi => wpOp_mono (fun a' w' h' => UpV.any fuel _ a' w' h'.2) (h.2 i hi)⟩
theorem owe_less {i : Nat} (hn : ∀ p ∈ Ss, p.1 ≠ i) {listed : Array Bool} {j : Nat} {w : World} (h : OweL Ss ((listed.setIfInBounds i true).setIfInBounds j true) w) : OweL Ss (listed.setIfInBounds j true) w := by
 intro p hp hl
 refine h p hp ?_
 by_cases hji : j = i
 ·subst hji
  rw [getD_set_ne true (fun e => hn p hp e.symm)] at hl ⊢
  rw [getD_set_ne true (fun e => hn p hp e.symm)]
  exact hl
 ·rw [Array.setIfInBounds_comm _ _ (fun e => hji e.symm), getD_set_ne true (fun e => hn p hp e.symm)]
  exact hl
theorem owe_drop {i : Nat} (hn : ∀ p ∈ Ss, p.1 ≠ i) {listed : Array Bool} {w : World} (h : OweL Ss listed w) : OweL Ss (listed.setIfInBounds i true) w := by
 intro p hp hl
 rw [getD_set_ne true (fun e => hn p hp e.symm)] at hl
 exact h p hp hl
theorem UpV.first {i k : Nat} {S : World → Prop} {oi : Oper} {v : Value} (hi : ops[i]? = some oi) (hsel : ∀ (j : Nat) (o : Oper) cs b, ops[j]? = some o → o.op ≠ .select cs b)
  (hQ : ∀ c a w, Q (.panic c) (a.put oi.dst v) w → Q (.panic c) a w) (hm : (k, S) ∈ Ss) (hn : ∀ p ∈ Ss, p.1 ≠ i) (hwk : waitsB md ops k i = true) :
  ∀ (fuel : Nat) (listed : Array Bool) (a : Act) (w : World),
   (∀ j oj, ops[j]? = some oj → j ≠ i → listed.getD j true = false → (∀ e ∈ oj.after, Region.binds md e = true → e.on ≠ i) → oi.apart ops oj = true) →
   i ∈ Region.ready md ops listed → YieldsIf P ops S oi v a → OweL Ss listed w → listed.getD k true = false →
   UpV P md ops Q Ss fuel (listed.setIfInBounds i true) (a.put oi.dst v) w → UpV P md ops Q Ss (fuel + 1) listed a w := by
 intro fuel
 induction fuel with
 | zero =>
  intro listed a w _ hr hy hS hkl H
  refine ⟨fun h => (by rw [h] at hr; cases hr), fun j hj => ?_⟩
  by_cases hji : j = i
  ·subst hji; exact hy.wpOp hi (hS _ hm hkl) ⟨owe_drop hn hS, H⟩
  ·have := ready_mono hj hji
   rw [H.1] at this
   cases this
 | succ fuel ih =>
  intro listed a w hfree hr hy hS hkl H
  refine ⟨fun h => (by rw [h] at hr; cases hr), fun j hj => ?_⟩
  by_cases hji : j = i
  ·subst hji; exact hy.wpOp hi (hS _ hm hkl) ⟨owe_drop hn hS, H⟩
  ·have h1 := H.2 j (ready_mono hj hji)
   obtain ⟨hjun, oj, hoj, hall⟩ := mem_ready.1 hj
   have hnot : ∀ e ∈ oj.after, Region.binds md e = true → e.on ≠ i := fun e he hb heq => by
    have h1 := hall e he hb
    have h0 := (mem_ready.1 hr).1
    rw [heq] at h1
    rcases Nat.lt_or_ge i listed.size with h' | h'
    ·simp [h'] at h0 h1; rw [h0] at h1; cases h1
    ·simp [Array.getElem?_eq_none h'] at h1
   have hjk : j ≠ k := by
    rintro rfl
    unfold waitsB at hwk
    rw [hoj] at hwk
    obtain ⟨e, he, hb⟩ := Array.any_eq_true'.1 hwk
    rw [Bool.and_eq_true] at hb
    exact hnot e he hb.1 (by simpa using hb.2)
   have h2 := wpOp_putIf hoj (hfree j oj hoj hji hjun hnot) (fun cs b => hsel i oi cs b hi) (fun cs b => hsel j oj cs b hoj) hQ hy h1
   have hfree' : ∀ k ok, ops[k]? = some ok → k ≠ i → (listed.setIfInBounds j true).getD k true = false →
     (∀ e ∈ ok.after, Region.binds md e = true → e.on ≠ i) → oi.apart ops ok = true := fun k ok hk hki hun hno => by
    refine hfree k ok hk hki ?_ hno
    by_cases hjk : j = k
    ·subst hjk; exact hjun
    ·rw [getD_set_ne true hjk] at hun; exact hun
   have hkj : (listed.setIfInBounds j true).getD k true = false := by rw [getD_set_ne true hjk]; exact hkl
   refine wpOp_mono (fun a' w' h3 => ⟨owe_less hn h3.2.1, ih (listed.setIfInBounds j true) a' w' hfree' (ready_mono hr (Ne.symm hji)) h3.1 (owe_less hn h3.2.1) hkj ?_⟩) h2
   rw [Array.setIfInBounds_comm _ _ hji]
   exact h3.2.2
theorem UpV.take (i k : Nat) {S : World → Prop} {oi : Oper} {v : Value} {fuel : Nat} {listed : Array Bool} {a : Act} {w : World} (hi : ops[i]? = some oi) (hm : (k, S) ∈ Ss)
  (hs : Region.noSelect ops = true) (hf : Region.free md ops listed i = true) (hr : (Region.ready md ops listed).contains i = true)
  (hw : (waitsB md ops k i && !listed.getD k true) = true) (hn : (Ss.map Prod.fst).contains i = false)
  (hQ : ∀ c a w, Q (.panic c) (a.put oi.dst v) w → Q (.panic c) a w) (hy : YieldsIf P ops S oi v a) (hS : OweL Ss listed w)
  (h : UpV P md ops Q Ss fuel (listed.setIfInBounds i true) (a.put oi.dst v) w) : UpV P md ops Q Ss (fuel + 1) listed a w := by
 simp only [Bool.and_eq_true, Bool.not_eq_true'] at hw
 exact UpV.first hi (Region.noSelect_spec hs) hQ hm (fun p hp e => by
  have : (Ss.map Prod.fst).contains i = true := by rw [List.contains_iff_mem]; exact List.mem_map.2 ⟨p, hp, e⟩
  rw [hn] at this; cases this) hw.1 fuel listed a w (Region.free_spec hi hf) (by simpa using hr) hy hS hw.2 h
theorem UpV.firstP {i : Nat} {oi : Oper} {v : Value} (hi : ops[i]? = some oi) (hsel : ∀ (j : Nat) (o : Oper) cs b, ops[j]? = some o → o.op ≠ .select cs b)
  (hQ : ∀ c a w, Q (.panic c) (a.put oi.dst v) w → Q (.panic c) a w) (hn : ∀ p ∈ Ss, p.1 ≠ i) :
  ∀ (fuel : Nat) (listed : Array Bool) (a : Act) (w : World),
   (∀ j oj, ops[j]? = some oj → j ≠ i → listed.getD j true = false → (∀ e ∈ oj.after, Region.binds md e = true → e.on ≠ i) → oi.apart ops oj = true) →
   i ∈ Region.ready md ops listed → YieldsIf P ops (fun _ => True) oi v a → OweL Ss listed w →
   UpV P md ops Q Ss fuel (listed.setIfInBounds i true) (a.put oi.dst v) w → UpV P md ops Q Ss (fuel + 1) listed a w := by
 intro fuel
 induction fuel with
 | zero =>
  intro listed a w _ hr hy hS H
  refine ⟨fun h => (by rw [h] at hr; cases hr), fun j hj => ?_⟩
  by_cases hji : j = i
  ·subst hji; exact hy.wpOp hi trivial ⟨owe_drop hn hS, H⟩
  ·have := ready_mono hj hji
   rw [H.1] at this
   cases this
 | succ fuel ih =>
  intro listed a w hfree hr hy hS H
  refine ⟨fun h => (by rw [h] at hr; cases hr), fun j hj => ?_⟩
  by_cases hji : j = i
  ·subst hji; exact hy.wpOp hi trivial ⟨owe_drop hn hS, H⟩
  ·have h1 := H.2 j (ready_mono hj hji)
   obtain ⟨hjun, oj, hoj, hall⟩ := mem_ready.1 hj
   have hnot : ∀ e ∈ oj.after, Region.binds md e = true → e.on ≠ i := fun e he hb heq => by
    have h1 := hall e he hb
    have h0 := (mem_ready.1 hr).1
    rw [heq] at h1
    rcases Nat.lt_or_ge i listed.size with h' | h'
    ·simp [h'] at h0 h1; rw [h0] at h1; cases h1
    ·simp [Array.getElem?_eq_none h'] at h1
   have h2 := wpOp_putIf hoj (hfree j oj hoj hji hjun hnot) (fun cs b => hsel i oi cs b hi) (fun cs b => hsel j oj cs b hoj) hQ hy h1
   have hfree' : ∀ k ok, ops[k]? = some ok → k ≠ i → (listed.setIfInBounds j true).getD k true = false →
     (∀ e ∈ ok.after, Region.binds md e = true → e.on ≠ i) → oi.apart ops ok = true := fun k ok hk hki hun hno => by
    refine hfree k ok hk hki ?_ hno
    by_cases hjk : j = k
    ·subst hjk; exact hjun
    ·rw [getD_set_ne true hjk] at hun; exact hun
   refine wpOp_mono (fun a' w' h3 => ⟨owe_less hn h3.2.1, ih (listed.setIfInBounds j true) a' w' hfree' (ready_mono hr (Ne.symm hji)) h3.1 (owe_less hn h3.2.1) ?_⟩) h2
   rw [Array.setIfInBounds_comm _ _ hji]
   exact h3.2.2
theorem UpV.takeP (i : Nat) {oi : Oper} {v : Value} {fuel : Nat} {listed : Array Bool} {a : Act} {w : World} (hi : ops[i]? = some oi)
  (hs : Region.noSelect ops = true) (hf : Region.free md ops listed i = true) (hr : (Region.ready md ops listed).contains i = true)
  (hn : (Ss.map Prod.fst).contains i = false)
  (hQ : ∀ c a w, Q (.panic c) (a.put oi.dst v) w → Q (.panic c) a w) (hy : YieldsIf P ops (fun _ => True) oi v a) (hS : OweL Ss listed w)
  (h : UpV P md ops Q Ss fuel (listed.setIfInBounds i true) (a.put oi.dst v) w) : UpV P md ops Q Ss (fuel + 1) listed a w :=
 UpV.firstP hi (Region.noSelect_spec hs) hQ (fun p hp e => by
  have : (Ss.map Prod.fst).contains i = true := by rw [List.contains_iff_mem]; exact List.mem_map.2 ⟨p, hp, e⟩
  rw [hn] at this; cases this) fuel listed a w (Region.free_spec hi hf) (by simpa using hr) hy hS h
def DoV (P : Program) (md : Region.Mode) (ops : Array Oper) (Q : Exit → Act → World → Prop) (Ss : List (Nat × (World → Prop))) (i : Nat) (o : Oper) (fuel : Nat) (listed : Array Bool) (a : Act) (w : World) : Prop :=
 ∀ K' : Act → World → Prop, Shut (∀ a w, OweL Ss (listed.setIfInBounds i true) w → UpV P md ops Q Ss fuel (listed.setIfInBounds i true) a w → K' a w) → if Region.wanted o (yielded ops a.tmps) = true then Oper.wp P o a w K' Q else K' (a.put o.dst undef) w
theorem UpV.one (i : Nat) {o : Oper} {fuel : Nat} {listed : Array Bool} {a : Act} {w : World} (hr : Region.ready md ops listed = [i]) (ho : ops[i]? = some o)
  (h : DoV P md ops Q Ss i o fuel listed a w) : UpV P md ops Q Ss (fuel + 1) listed a w :=
 ⟨fun h0 => (by rw [hr] at h0; cases h0), fun j hj => by
  rw [hr] at hj
  obtain rfl : j = i := by simpa using hj
  exact wpOp_step ho (fun K' hK => h K' (fun a w hS hW => hK a w ⟨hS, hW⟩))⟩
theorem UpV.two (i j : Nat) {o o' : Oper} {fuel : Nat} {listed : Array Bool} {a : Act} {w : World} (hr : Region.ready md ops listed = [i, j]) (ho : ops[i]? = some o) (ho' : ops[j]? = some o')
  (h : DoV P md ops Q Ss i o fuel listed a w) (h' : DoV P md ops Q Ss j o' fuel listed a w) : UpV P md ops Q Ss (fuel + 1) listed a w :=
 ⟨fun h0 => (by rw [hr] at h0; cases h0), fun m hm => by
  rw [hr] at hm
  rcases List.mem_cons.1 hm with rfl | hm
  ·exact wpOp_step ho (fun K' hK => h K' (fun a w hS hW => hK a w ⟨hS, hW⟩))
  ·obtain rfl := mSg.1 hm
   exact wpOp_step ho' (fun K' hK => h' K' (fun a w hS hW => hK a w ⟨hS, hW⟩))⟩
theorem UpV.tp (i : Nat) {oi : Oper} {v : Value} {fuel : Nat} {listed : Array Bool} {a : Act} {w : World} (hi : ops[i]? = some oi) (hy : YieldsIf P ops (fun _ => True) oi v a) (hS : OweL Ss listed w)
  (h : UpV P md ops Q Ss fuel (listed.setIfInBounds i true) (a.put oi.dst v) w)
  (hs : Region.noSelect ops = true := by kernel_rfl) (hf : Region.free md ops listed i = true := by kernel_rfl) (hr : (Region.ready md ops listed).contains i = true := by kernel_rfl)
  (hn : (Ss.map Prod.fst).contains i = false := by kernel_rfl) (hQ : ∀ c a w, Q (.panic c) (a.put oi.dst v) w → Q (.panic c) a w := by exact fun _ _ _ h => h) : UpV P md ops Q Ss (fuel + 1) listed a w := UpV.takeP i hi hs hf hr hn hQ hy hS h
theorem UpV.tk (i k : Nat) {S : World → Prop} {oi : Oper} {v : Value} {fuel : Nat} {listed : Array Bool} {a : Act} {w : World} (hi : ops[i]? = some oi) (hm : (k, S) ∈ Ss) (hy : YieldsIf P ops S oi v a) (hS : OweL Ss listed w)
  (h : UpV P md ops Q Ss fuel (listed.setIfInBounds i true) (a.put oi.dst v) w)
  (hs : Region.noSelect ops = true := by kernel_rfl) (hf : Region.free md ops listed i = true := by kernel_rfl) (hr : (Region.ready md ops listed).contains i = true := by kernel_rfl)
  (hw : (waitsB md ops k i && !listed.getD k true) = true := by kernel_rfl) (hn : (Ss.map Prod.fst).contains i = false := by kernel_rfl) (hQ : ∀ c a w, Q (.panic c) (a.put oi.dst v) w → Q (.panic c) a w := by exact fun _ _ _ h => h) : UpV P md ops Q Ss (fuel + 1) listed a w := UpV.take i k hi hm hs hf hr hw hn hQ hy hS h
theorem UpV.done {fuel : Nat} {listed : Array Bool} {a : Act} {w : World} (hr : Region.ready md ops listed = []) (h : Q .normal a w) : UpV P md ops Q Ss fuel listed a w := by
 cases fuel with
 | zero => exact ⟨hr, h⟩
 | succ n => exact ⟨fun _ => h, fun i hi => by rw [hr] at hi; cases hi⟩
theorem UpV.start {id : Nat} {a : Act} {w : World} (Ss : List (Nat × (World → Prop))) (hm : P.follows .mixedOrders = true)
  (h : UpV P .any ops Q Ss ops.size (Array.replicate ops.size false) a w.drew) : (Code.region id ops true).wp P Q a w :=
 wp_region_any hm (UpV.any _ _ _ _ h)
end
open Go.RowKit Go.Shelf
set_option linter.unusedSimpArgs false
set_option maxRecDepth 100000
def stopC : List PanicEntry := [{ v := .iface 148 (.agg #[]), recovered := false }]
def newOr (v' v : Value) (w : World) : Prop := v'.ownBlock = v.ownBlock ∨ ∃ g, v'.ownBlock = some g ∧ w.heap.size ≤ g
theorem newOr.trans {v1 v2 v3 : Value} {w w' : World} (h : newOr v1 v2 w') (g : newOr v2 v3 w) (hs : w.heap.size ≤ w'.heap.size) : newOr v1 v3 w := by
 rcases h with h | ⟨b, h, hb⟩
 ·rcases g with g | ⟨b, g, hb⟩
  ·exact .inl (h.trans g)
  ·exact .inr ⟨b, h.trans g, hb⟩
 ·exact .inr ⟨b, h, Nat.le_trans hs hb⟩
theorem newOr.mono {v' v : Value} {w w' : World} (h : newOr v' v w') (hs : w.heap.size ≤ w'.heap.size) : newOr v' v w := h.imp id (fun ⟨b, h, hb⟩ => ⟨b, h, Nat.le_trans hs hb⟩)
theorem srF_sub {Hb : Nat} {vW vC vW' vC' : Value} {w : World} (h1 : newOr vW' vW w) (h2 : newOr vC' vC w) : ∀ x ∈ srF Hb vW' vC', x ∈ srF Hb vW vC ∨ w.heap.size ≤ x := by
 intro x hx
 rcases mem_srF.1 hx with e | e | e
 ·exact .inl (mem_srF.2 (.inl e))
 ·rcases h1 with h | ⟨g, h, hg⟩
  ·rw [h] at e; exact .inl (mem_srF.2 (.inr (.inl e)))
  ·rw [h] at e; obtain rfl := sIj e; exact .inr hg
 ·rcases h2 with h | ⟨g, h, hg⟩
  ·rw [h] at e; exact .inl (mem_srF.2 (.inr (.inr e)))
  ·rw [h] at e; obtain rfl := sIj e; exact .inr hg
def FromR (w : World) (Hb B base : Nat) (vp : Value) (left : Int) (ws : List Dp) (ch : List Pk) (vW vC : Value) (r : Res × Nat) (e : Ending) (w' : World) : Prop :=
 Ch (srF Hb vW vC) w w' ∧ match r.1 with
 | .ok c => e = .returned (.bool true) ∧ ∃ vW' vC', w'.heap[Hb]? = some (.cells (srC B vp vW' vC' left (left - r.2)) 146 (0, 0)) ∧ ownsC w' base 41 4 vC' c.length (c.flatMap pkL) ∧ newOr vC' vC w
 | .clash => e = .returned (.bool false) ∧ ∃ vW' vC' xs', SrAt w' Hb B base vp left ws ch (left - r.2) vW' vC' xs' ∧ newOr vW' vW w ∧ newOr vC' vC w
 | .budget => e = .panicked stopC ∧ ∃ vW' vC', w'.heap[Hb]? = some (.cells (srC B vp vW' vC' left (left - r.2)) 146 (0, 0))
theorem FromR.back {w w4 w5 : World} {Hb B base : Nat} {vp : Value} {left : Int} {ws : List Dp} {ch : List Pk} {vW vC : Value} {r : Res × Nat} {e : Ending} (hb : Below w.heap.size w w4) (h : FromR w4 Hb B base vp left ws ch vW vC r e w5) : FromR w Hb B base vp left ws ch vW vC r e w5 := by
 obtain ⟨h1, h2⟩ := h
 refine ⟨(Ch.of_below hb _).trans h1 (fun x hx => .inl hx), ?_⟩
 obtain ⟨res, b⟩ := r
 cases res with
 | ok c =>
  obtain ⟨h3, vW', vC', h4, h5, h6⟩ := h2
  exact ⟨h3, vW', vC', h4, h5, h6.mono hb.size⟩
 | budget => exact h2
 | clash =>
  obtain ⟨h3, vW', vC', xs', h4, h5, h6⟩ := h2
  exact ⟨h3, vW', vC', xs', h4, h5.mono hb.size, h6.mono hb.size⟩
theorem decide_yes (w : World) (Hb B : Nat) (vp vW vC : Value) (left made : Int) (hH : w.heap[Hb]? = some (.cells (srC B vp vW vC left made) 146 (0, 0))) (hm : 0 ≤ made) (hl : left ≤ 1000000) (h : made < left) :
  Calls Tryz.prog 86 #[.pointer (some ⟨Hb, 0, none⟩)] w fun e w' => e = .returned (.tuple #[]) ∧ w'.heap[Hb]? = some (.cells (srC B vp vW vC left (made + 1)) 146 (0, 0)) ∧ Ch [Hb] w w' := by
 refine (decide_any w Hb B vp vW vC left made hH hm hl).mono ?_
 rintro e w' (⟨-, h1⟩ | ⟨h1, -⟩)
 ·exact h1
 ·omega
theorem decide_no (w : World) (Hb B : Nat) (vp vW vC : Value) (left made : Int) (hH : w.heap[Hb]? = some (.cells (srC B vp vW vC left made) 146 (0, 0))) (hm : 0 ≤ made) (hl : left ≤ 1000000) (h : left ≤ made) :
  Calls Tryz.prog 86 #[.pointer (some ⟨Hb, 0, none⟩)] w fun e w' => e = .panicked stopC ∧ Below w.heap.size w w' := by
 refine (decide_any w Hb B vp vW vC left made hH hm hl).mono ?_
 rintro e w' (⟨h1, -⟩ | ⟨-, h1⟩)
 ·omega
 ·exact h1
theorem meetF_le {F : Dp → List Pk} {R : Pk → List Dp} {n b : Nat} {w : List Dp} {c : List Pk} {r : Res × Nat} (h : meetF F R n b w c = some r) : r.2 ≤ b := by
 obtain ⟨m, r', h', hl⟩ := meetF_ends F R b w c
 rw [meetF_det h h']
 exact hl
theorem St.mem_fits {st : St} {d : Dp} {p : Pk} : p ∈ st.fits d ↔ p ∈ st.pkgs ∧ willB d p = true := by
 unfold St.fits
 rw [List.mem_reverse, List.mem_filter, St.mem_all]
theorem St.mem_fitsP {st : St} {pool : List Pk} {d : Dp} {p : Pk} : p ∈ st.fitsP pool d ↔ p ∈ pool ∧ p ∈ st.pkgs ∧ willB d p = true := by
 unfold St.fitsP
 rw [List.mem_filter, St.mem_fits, inP_iff]
 exact and_comm
theorem fitsP_len (st : St) (pool : List Pk) (d : Dp) : (st.fitsP pool d).length ≤ st.seeds.length + st.recs.length := Nat.le_trans (List.length_filter_le _ _) (fits_len st d)
theorem inP_will {st : St} {d : Dp} {p : Pk} (hp : p ∈ st.pkgs) : inP (st.fits d) p = willB d p := by
 rw [Bool.eq_iff_iff, inP_iff, St.mem_fits]
 exact ⟨fun h => h.2, fun h => ⟨hp, h⟩⟩
theorem rec_good {w : World} {B : Nat} {F : List Nat} {st : St} (h : StkAt w B F st) {p : Pk} {r : Rc} (hr : st.rec? p = some r) : goodRc r = true := by
 obtain ⟨N, vN, es, rfl, h⟩ := h
 obtain ⟨h1, h2⟩ := St.rec?_some hr
 have hent : st.ent p = some (some r) := by unfold St.ent; rw [hr]
 obtain ⟨L, hL, hx⟩ := (h.tab.iff p.1 (verNum p.2) (some r)).2 ((entOf_iff h.ok).2 hent)
 obtain ⟨e, he, hex⟩ := List.mem_map.1 hL
 obtain ⟨e1, e2⟩ := Prod.mk.inj hex
 subst e2
 obtain ⟨-, hrow⟩ := h.each e he
 obtain ⟨i, hi⟩ := List.mem_iff_getElem?.1 hx
 obtain ⟨q, hq⟩ : ∃ q, e.rows[i]? = some q := ⟨_, gEg (by rw [hrow.1]; exact (gEs.1 hi).1)⟩
 obtain ⟨-, rs, -, -, hg⟩ := hrow.2 i q _ hq hi
 exact hg
theorem runs_len {w : World} {B : Nat} {F : List Nat} {st : St} (h : StkAt w B F st) (p : Pk) : (st.runs p).length ≤ 8 := by
 unfold St.runs
 cases hr : st.rec? p with
 | none => simp
 | some r =>
  have hg := rec_good h hr
  unfold goodRc at hg
  simp only [Bool.and_eq_true] at hg
  have := hg.2.2.2
  unfold depsB at this
  simp only [Bool.and_eq_true, decide_eq_true_eq] at this
  exact this.1
theorem recipe_runs {st : St} {p : Pk} {w w' : World} {e : Ending} (h : RecipeP st p w e w') : ∃ (s : ByteArray) (x y z : Int) (t : ByteArray) (a1 : Option Addr) (n1 c1 : Nat) (a2 : Option Addr) (n2 c2 : Nat) (a3 : Option Addr) (c3 : Nat) (b : Bool),
  e = .returned (.tuple #[.agg #[.string s, .int .i64 x, .int .i64 y, .int .i64 z, .string t, .slice a1 n1 c1, .slice a2 n2 c2, .slice a3 (st.runs p).length c3], .bool b]) ∧ DepsAt (zNew w.heap.size) w' (.slice a3 (st.runs p).length c3) (st.runs p) ∧ Below w.heap.size w w' := by
 obtain ⟨vs, b, rfl, hb, ⟨r, hr, -, hat, -⟩ | ⟨hr, -, rfl⟩⟩ := h
 ·obtain ⟨t0, t1, b0, r0, rfl, -, ht, hbd, hrn⟩ := hat
  have e1 : st.runs p = r.run := by unfold St.runs; rw [hr]
  rw [e1]
  obtain ⟨a1, c1, f1, -⟩ := ht.2.2
  obtain ⟨a2, c2, f2, -⟩ := hbd
  have hrn' := hrn
  obtain ⟨a3, c3, f3, -⟩ := hrn'
  obtain ⟨s, -, hs, -, -⟩ := strV_is r.pkg.1
  obtain ⟨t, -, ht', -, -⟩ := strV_is r.tool.1
  refine ⟨s, r.pkg.2.1, r.pkg.2.2.1, r.pkg.2.2.2, t, a1, r.tool.2.length, c1, a2, r.build.length, c2, a3, c3, b, ?_, by rw [← f3]; exact hrn, hb⟩
  rw [hs, ht.1, ht', f1, f2, f3]
 ·have e1 : st.runs p = [] := by unfold St.runs; rw [hr]
  rw [e1]
  exact ⟨⟨#[]⟩, 0, 0, 0, ⟨#[]⟩, none, 0, 0, none, 0, 0, none, 0, b, rfl, ⟨none, 0, rfl, ⟨Nat.le_refl _, by simp, by unfold maxLen; omega, fun _ => ⟨rfl, rfl⟩⟩, fun h => absurd rfl h⟩, hb⟩
def KP (T : TypeId) (A B : World) : Prop := ∀ (b : Nat) (c : Array Value) (t : TypeId) (f : Nat × Nat), t ≠ T → A.heap[b]? = some (.cells c t f) → B.heap[b]? = some (.cells c t f)
theorem KP.below {T : TypeId} {A B : World} (h : Below A.heap.size A B) : KP T A B := fun b c t f _ hb => (h.block b (loh hb)).trans hb
theorem KP.trans {T : TypeId} {A B C : World} (h : KP T A B) (g : KP T B C) : KP T A C := fun b c t f ht hb => g b c t f ht (h b c t f ht hb)
theorem KP.grown {T : TypeId} {A B : World} {base sz n : Nat} {v : Value} {xs : List Value} (hg : A.grownBy B v.ownBlock) (ho : ownsC A base T sz v n xs) : KP T A B := fun b c t f ht hb => by
 refine (hg.block b (loh hb) (fun e => ?_)).trans hb
 obtain ⟨_, cur, hc⟩ := oCk ho e.symm
 rw [hb] at hc
 exact ht (Obj.cells.inj (sIj hc)).2.1
theorem KP.owns {T T' : TypeId} {A B : World} {base sz n : Nat} {v : Value} {xs : List Value} (h : KP T A B) (ht : T' ≠ T) (ho : ownsC A base T' sz v n xs) : ownsC B base T' sz v n xs :=
 ownsC_keep ho (fun g hg => by
  obtain ⟨_, cur, hc⟩ := oCk ho hg
  exact (h g _ _ _ ht hc).trans hc.symm)
theorem newOr_of {v' v : Value} {w : World} (h : v'.ownBlock = v.ownBlock ∨ v'.ownBlock = some w.heap.size) : newOr v' v w := h.imp id (fun e => ⟨_, e, Nat.le_refl _⟩)
theorem six_two {w : World} {Hb B : Nat} {vp vW vC vW' vC' : Value} {left made : Int} (h : w.heap[Hb]? = some (.cells (srC B vp vW vC left made) 146 (0, 0))) :
  (w.setCell ⟨Hb, 2, none⟩ vW').heap[Hb]? = some (.cells (srC B vp vW' vC left made) 146 (0, 0)) ∧ ((w.setCell ⟨Hb, 2, none⟩ vW').setCell ⟨Hb, 3, none⟩ vC').heap[Hb]? = some (.cells (srC B vp vW' vC' left made) 146 (0, 0)) := by
 have h1 := heap_setCell_here (i := 2) vW' h
 have h2 := heap_setCell_here (i := 3) vC' h1
 exact ⟨h1, h2⟩
section
variable {W wa wc : World} {Hb B base : Nat} {vp vW vC vW' vC' : Value} {left made : Int} {ws ds : List Dp} {ch : List Pk} {xs ys : List Value} {p : Pk} {n0 : Nat}
theorem push_end (h : SrAt W Hb B base vp left ws ch made vW vC xs) (c1 : Ch (srF Hb vW vC) W wc) (k1 : KP 41 wa wc)
  (oa : ownsC wa base 59 2 vW' (ws.length + ds.length) (xs ++ ys)) (oc : ownsC wc base 41 4 vC' (ch.length + 1) (ch.flatMap pkL ++ pkL p))
  (hH : wc.heap[Hb]? = some (.cells (srC B vp vW vC left made) 146 (0, 0))) (n1 : newOr vW' vW W) (n2 : newOr vC' vC W)
  (hy : WantsAt (fun b => n0 ≤ b ∧ b < W.heap.size) W ys ds) (hn : ∀ k ∈ srF Hb vW vC, k < n0) :
  SrAt ((wc.setCell ⟨Hb, 2, none⟩ vW').setCell ⟨Hb, 3, none⟩ vC') Hb B base vp left (ws ++ ds) (ch ++ [p]) made vW' vC' (xs ++ ys) ∧ Ch (srF Hb vW vC) W ((wc.setCell ⟨Hb, 2, none⟩ vW').setCell ⟨Hb, 3, none⟩ vC') := by
 obtain ⟨e1, e2⟩ := six_two (vW' := vW') (vC' := vC') hH
 have hset : ∀ b, b ≠ Hb → ((wc.setCell ⟨Hb, 2, none⟩ vW').setCell ⟨Hb, 3, none⟩ vC').heap[b]? = wc.heap[b]? := fun b hb => (bHs _ _ _ b hb).trans (bHs _ _ _ b hb)
 have hch : Ch (srF Hb vW vC) W ((wc.setCell ⟨Hb, 2, none⟩ vW').setCell ⟨Hb, 3, none⟩ vC') :=
  (c1.setCell (p := ⟨Hb, 2, none⟩) (.inl (mem_srF.2 (.inl rfl))) vW').setCell (p := ⟨Hb, 3, none⟩) (.inl (mem_srF.2 (.inl rfl))) vC'
 have oa' := k1.owns (by decide) oa
 refine ⟨h.push e2 (ownsC_keep oa' (fun g hg => hset g (fun e => ?_))) (ownsC_keep oc (fun g hg => hset g (fun e => ?_))) hch n1 n2 hy hn, hch⟩
 ·subst e
  obtain ⟨_, cur, hc⟩ := oCk oa' hg
  exact heap_ne hc hH (by decide) rfl
 ·subst e
  obtain ⟨_, cur, hc⟩ := oCk oc hg
  exact heap_ne hc hH (by decide) rfl
end
end Go.Proofs.YtaagkndhgicifaaGreat
