/- DERIVED. Texts of this claim, put together: Mem, Arg, Reach, WordsA, Words, Fam, Ord. -/
import Derived.Deep.AppendSrc
import Derived.Laws.AppendOwn
import Derived.Deep.RegionLaw
import Derived.WalkKit
import Derived.Lib.Hide
import Derived.SizedLaws
import Derived.Deep.Slices
import Derived.ProofKit
import Derived.Test.YtjcimajkjnjdpabGreatDoorRows
import Derived.WalkSpells
import Derived.WalkLawsBesides
import Derived.BigRegion
import Derived.Deep.QuietTactic
import Derived.BigQuiet
import Derived.OpenShut
import GoSem.Op.String
/- DERIVED. Memory of the call's own: reading a slice, append of whatever source, frames. No program in sight. -/
namespace Go.Proofs.YtjcimajkjnjdpabGreatDoor
open Go.RowKit

/-- A slice value that reads as the values xs (one cell each). -/
def Rd (w : World) (v : Value) (xs : List Value) : Prop :=
  ∃ a cap, v = .slice a xs.length cap ∧ xs.length ≤ cap ∧ (a = none → cap = 0) ∧ ∀ ad, a = some ad → ∀ j u, xs[j]? = some u → w.cell? (ad.add j) = some u

theorem Rd.nil (w : World) : Rd w (.slice none 0 0) [] := ⟨none, 0, rfl, Nat.le_refl _, fun _ => rfl, fun _ h => by cases h⟩
theorem Rd.mono {w w' : World} {v : Value} {xs : List Value} (h : Rd w v xs) (hk : ∀ a u, w.cell? a = some u → w'.cell? a = some u) : Rd w' v xs := by
  obtain ⟨a, cap, rfl, h1, h2, h3⟩ := h
  exact ⟨a, cap, rfl, h1, h2, fun ad e j u hj => hk _ _ (h3 ad e j u hj)⟩
theorem cell_lt {w : World} {a : Addr} {u : Value} (h : w.cell? a = some u) : a.block < w.heap.size := by
  unfold World.cell? at h
  rcases Nat.lt_or_ge a.block w.heap.size with hl | hl
  · exact hl
  · rw [Array.getElem?_eq_none hl] at h; cases h
theorem below_keeps {w w' : World} (h : Below w.heap.size w w') (a : Addr) (u : Value) (hc : w.cell? a = some u) : w'.cell? a = some u := by
  rw [h.cell (cell_lt hc)]; exact hc
theorem Rd.below {w w' : World} {v : Value} {xs : List Value} (h : Rd w v xs) (hb : Below w.heap.size w w') : Rd w' v xs := h.mono (below_keeps hb)

theorem Rd.src {P : Program} {w : World} {tx e' : TypeId} (hk : P.underlying tx = some (.slice e')) {v : Value} {xs : List Value} (h : Rd w v xs) (h1 : ∀ u ∈ xs, u.oneCell' = true) : Src P 1 tx v xs.length xs w := by
  obtain ⟨a, cap, rfl, h2, h3, h4⟩ := h
  cases a with
  | none =>
    obtain rfl := h3 rfl
    obtain rfl : xs = [] := List.eq_nil_of_length_eq_zero (by omega)
    exact Src.ofNil w hk 0
  | some ad =>
    exact Src.ofSlice w hk ad xs.length cap xs (by omega) (h4 ad rfl) h1

/-- 'append' onto a row of the call's own, of whatever source. -/
theorem run_append_srcs {P : Program} (w : World) (base : Nat) (t tx ty e : TypeId) (i : TypeInfo) (z : Value) (size bytes : Nat) (ht : P.underlying t = some (.slice e)) (hi : P.info? e = some i) (hz : i.zero = some z)
    (hsize : i.size = size) (hby : i.bytes = bytes) (hzs : z.cells.size = size) (_hsz : 0 < size)
    (v : Value) (n : Nat) (xs : List Value) (hown : w.ownsRow base e size v n xs) (x : Value) (m : Nat) (news : List Value) (hs : Src P size tx x m news w)
    (h63 : n + m ≤ maxLen) (hbytes : (n + m) * bytes ≤ 140737488355328) (hbase : base ≤ w.heap.size) :
    ∃ v' w', (Builtin.append_ #[t, tx] ty #[v, x]).run P w = .ok v' w' ∧ w'.ownsRow base e size v' (n + m) (xs ++ news) ∧ w.grownBy w' v.ownBlock ∧ (v' = .slice none 0 0 ↔ v = .slice none 0 0 ∧ m = 0) ∧
      (v'.ownBlock = v.ownBlock ∨ v'.ownBlock = some w.heap.size) := by
  subst hsize
  subst hby
  have hsmall : n + m ≤ 9223372036854775807 := by simp only [maxLen] at h63; omega
  have hl := hs.newsLen
  have hlen : (xs ++ news).length = (n + m) * i.size := by rw [List.length_append, hown.1, hl, Nat.add_mul]
  have grown : ∀ (old : Nat), old < n + m → ∀ (row : Option Nat),
      (w.drew.alloc (.cells ((xs ++ news).toArray ++ Builtin.zeroCells z.cells (grownCap w (n + m) old e - (n + m))) e)).ownsRow base e i.size
        (.slice (some ⟨w.heap.size, 0, none⟩) (n + m) (grownCap w (n + m) old e)) (n + m) (xs ++ news) ∧
      w.grownBy (w.drew.alloc (.cells ((xs ++ news).toArray ++ Builtin.zeroCells z.cells (grownCap w (n + m) old e - (n + m))) e)) row := by
    intro old ho row
    have hge := grownCap_ge w (n + m) old e
    have hcm : grownCap w (n + m) old e ≤ maxLen := grownCap_le_maxLen w (n + m) old e h63
    refine ⟨⟨hlen, .inr ⟨w.heap.size, _, _, rfl, hbase, heap_alloc_new w.drew _, hge, hcm, ?_, ?_⟩⟩, ⟨rfl, rfl, rfl, by simp, fun k hk _ => heap_alloc_old w.drew _ hk⟩⟩
    · simp only [Array.size_append, List.size_toArray, size_zeroCells, hzs, hlen, ← Nat.add_mul]
      congr 1
      omega
    · simp only [Array.toList_append]
      rw [← hlen]
      exact List.take_left
  rcases hown.2 with ⟨rfl, rfl⟩ | ⟨g, cap, cur, rfl, hbg, hg, hnc, hcm, hcs, htake⟩
  · have hx : xs = [] := List.eq_nil_of_length_eq_zero (by simpa using hown.1)
    subst hx
    by_cases hm : m = 0
    · subst hm
      have hn : news = [] := List.eq_nil_of_length_eq_zero (by simpa using hl)
      subst hn
      refine ⟨.slice none 0 0, w, ?_, World.ownsRow_nil w base e i.size, ⟨rfl, rfl, rfl, Nat.le_refl _, fun _ _ _ => rfl⟩, by simp, .inl rfl⟩
      rcases hs.kind with ⟨e', hk⟩ | hk <;> simp [Builtin.append_, run_underlying ht, run_underlying hk, sizeOf, typeInfo, hi, hs.len, hs.cells]
    · have hr := run_append_grow_src (P := P) w t tx ty e i z ht hi hz none 0 0 [] (run_firstCells_none w.drew i.size 0 0 0) x m news hs (by omega) (by omega) (growslice_fits (by omega) hbytes)
      have hgr := grown 0 (by omega) (Value.ownBlock (.slice none 0 0))
      simp only [Nat.zero_add, List.nil_append] at hgr hr ⊢
      exact ⟨_, _, hr, hgr.1, hgr.2, by simp [hm], .inr rfl⟩
  · by_cases hroom : n + m ≤ cap
    · have hfit : n * i.size + news.length ≤ cur.size := by rw [hl, hcs, ← Nat.add_mul]; exact Nat.mul_le_mul_right _ hroom
      have hst := run_storeCells_at P g (n * i.size) e news 0 cur w hg (by simpa using hfit) hs.one
      simp only [Nat.add_zero] at hst
      have hr : (Builtin.append_ #[t, tx] ty #[.slice (some ⟨g, 0, none⟩) n cap, x]).run P w = .ok (.slice (some ⟨g, 0, none⟩) (n + m) cap) (w.setRow g (cur.toList.take (n * i.size) ++ news ++ cur.toList.drop (n * i.size + news.length)).toArray) := by
        rcases hs.kind with ⟨e', hk⟩ | hk <;> simp [Builtin.append_, run_underlying ht, run_underlying hk, sizeOf, typeInfo, hi, hs.len, hroom, hs.cells, Addr.add_lit, hst]
      refine ⟨_, _, hr, ⟨hlen, .inr ⟨g, cap, _, rfl, hbg, setRow_heap w g cur _ e _ hg, hroom, hcm, ?_, ?_⟩⟩, ⟨rfl, rfl, rfl, by simp, fun k _ hk => setRow_other w g k _ (fun e => hk (by simp [Value.ownBlock, e]))⟩, by simp, .inl rfl⟩
      · simp only [List.size_toArray, List.length_append, List.length_take, List.length_drop, Array.length_toList]
        omega
      · rw [htake, ← hlen]
        exact List.take_left
    · have holds : ∀ j u, xs[j]? = some u → w.drew.cell? ((⟨g, 0, none⟩ : Addr).add j) = some u := hown.cells (g := g) rfl
      have hr := run_append_grow_src (P := P) w t tx ty e i z ht hi hz (some ⟨g, 0, none⟩) n cap xs (run_firstCells_some w.drew i.size n ⟨g, 0, none⟩ n cap xs hown.1 holds) x m news hs (by omega) (by omega) (growslice_fits (by omega) hbytes)
      have hgr := grown cap (by omega) (Value.ownBlock (.slice (some ⟨g, 0, none⟩) n cap))
      exact ⟨_, _, hr, hgr.1, hgr.2, by simp, .inr rfl⟩

theorem owns_form {w : World} {base : Nat} {e : TypeId} {size : Nat} {v : Value} {n : Nat} {xs : List Value} (h : w.ownsRow base e size v n xs) : ∃ a c, v = .slice a n c := by
  rcases h.2 with ⟨rfl, rfl⟩ | ⟨g, cap, cur, rfl, _⟩
  · exact ⟨none, 0, rfl⟩
  · exact ⟨_, _, rfl⟩
/-- The same as one step of a region that draws its order. -/
theorem step_append_srcs {P : Program} {ops : Array Oper} {o : Oper} {a : Act} {w : World} {K : Act → World → Prop} {Q : Exit → Act → World → Prop} {E : Prop}
    (hg : o.guard = none) (s x : Operand) (t tx : TypeId) (hop : o.op = Op.call { callee := Callee.builtin Builtin.append, args := #[s, x], argTypes := #[t, tx] })
    (base : Nat) (e : TypeId) (i : TypeInfo) (z : Value) (size bytes : Nat) (ht : P.underlying t = some (.slice e)) (hi : P.info? e = some i) (hz : i.zero = some z)
    (hsize : i.size = size) (hby : i.bytes = bytes) (hzs : z.cells.size = size) (hsz : 0 < size)
    (v : Value) (hv : a.eval s = v) (n : Nat) (xs : List Value) (hown : w.ownsRow base e size v n xs) (y : Value) (hy : a.eval x = y) (m : Nat) (news : List Value) (hs : Src P size tx y m news w)
    (h63 : n + m ≤ maxLen) (hbytes : (n + m) * bytes ≤ 140737488355328) (hbase : base ≤ w.heap.size)
    (hK : ∀ a' c' w', w'.ownsRow base e size (.slice a' (n + m) c') (n + m) (xs ++ news) → w.grownBy w' v.ownBlock → (Value.slice a' (n + m) c' = .slice none 0 0 ↔ v = .slice none 0 0 ∧ m = 0) → ((Value.slice a' (n + m) c').ownBlock = v.ownBlock ∨ (Value.slice a' (n + m) c').ownBlock = some w.heap.size) → K (a.put o.dst (.slice a' (n + m) c')) w') :
    if Region.wanted o (yielded ops a.tmps) = true then Oper.wp P o a w K Q else E := by
  have hw : Region.wanted o (yielded ops a.tmps) = true := by simp [Region.wanted, hg]
  rw [if_pos hw]
  obtain ⟨v', w', hr, h2, h3, h4, h5⟩ := run_append_srcs (P := P) w base t tx o.type e i z size bytes ht hi hz hsize hby hzs hsz v n xs hown y m news hs h63 hbytes hbase
  obtain ⟨a', c', rfl⟩ := owns_form h2
  unfold Oper.wp
  simp [execOp, hop, resolve, invoke, builtin, hv, hy, hr, Result.andThen]
  exact hK a' c' w' h2 h3 h4 h5
/-- The same in a straight walk. -/
theorem wpList_append_srcs {P : Program} {ops : Array Oper} {rest : List Oper} {o : Oper} {a : Act} {w : World} {Q : Exit → Act → World → Prop} (hgd : o.guard = none) (s x : Operand) (t tx : TypeId)
    (ho : o.op = .call { callee := .builtin .append, args := #[s, x], argTypes := #[t, tx] })
    (base : Nat) (e : TypeId) (i : TypeInfo) (z : Value) (size bytes : Nat) (ht : P.underlying t = some (.slice e)) (hi : P.info? e = some i) (hz : i.zero = some z)
    (hsize : i.size = size) (hby : i.bytes = bytes) (hzs : z.cells.size = size) (hsz : 0 < size)
    (v : Value) (hv : a.eval s = v) (n : Nat) (xs : List Value) (hown : w.ownsRow base e size v n xs) (y : Value) (hy : a.eval x = y) (m : Nat) (news : List Value) (hs : Src P size tx y m news w)
    (h63 : n + m ≤ maxLen) (hbytes : (n + m) * bytes ≤ 140737488355328) (hbase : base ≤ w.heap.size)
    (h : ∀ a' c' w', w'.ownsRow base e size (.slice a' (n + m) c') (n + m) (xs ++ news) → w.grownBy w' v.ownBlock → (Value.slice a' (n + m) c' = .slice none 0 0 ↔ v = .slice none 0 0 ∧ m = 0) → ((Value.slice a' (n + m) c').ownBlock = v.ownBlock ∨ (Value.slice a' (n + m) c').ownBlock = some w.heap.size) → wpList P ops Q rest (a.put o.dst (.slice a' (n + m) c')) w') : wpList P ops Q (o :: rest) a w := by
  refine wpList_plain hgd fun K hK => ?_
  obtain ⟨v', w', hr, h2, h3, h4, h5⟩ := run_append_srcs (P := P) w base t tx o.type e i z size bytes ht hi hz hsize hby hzs hsz v n xs hown y m news hs h63 hbytes hbase
  obtain ⟨a', c', rfl⟩ := owns_form h2
  unfold Oper.wp execOp
  simp only [ho, resolve, invoke, builtin, Sem.run_bind, Sem.run_pure, Result.andThen_ok, List.map_toArray, List.map_cons, List.map_nil, hv, hy, hr]
  exact hK _ _ (h a' c' w' h2 h3 h4 h5)

/-! ### Frames: a world that has changed in no old block but those of S -/
structure Ch (S : List Nat) (w w' : World) : Prop where
  os : w'.os = w.os
  tape : w'.tape = w.tape
  output : w'.output = w.output
  size : w.heap.size ≤ w'.heap.size
  block : ∀ k, k < w.heap.size → k ∉ S → w'.heap[k]? = w.heap[k]?
theorem Ch.refl (S : List Nat) (w : World) : Ch S w w := ⟨rfl, rfl, rfl, Nat.le_refl _, fun _ _ _ => rfl⟩
/-- The second step may touch what is new since the first world. -/
theorem Ch.trans {S T : List Nat} {a b c : World} (h : Ch S a b) (k : Ch T b c) (hT : ∀ x ∈ T, x ∈ S ∨ a.heap.size ≤ x) : Ch S a c :=
  ⟨k.os.trans h.os, k.tape.trans h.tape, k.output.trans h.output, Nat.le_trans h.size k.size, fun i hi hn =>
    (k.block i (Nat.lt_of_lt_of_le hi h.size) (fun ht => (hT i ht).elim hn (fun h1 => by omega))).trans (h.block i hi hn)⟩
theorem Ch.mono {S T : List Nat} {a b : World} (h : Ch S a b) (hs : ∀ x ∈ S, x ∈ T ∨ a.heap.size ≤ x) : Ch T a b :=
  ⟨h.os, h.tape, h.output, h.size, fun k hk hn => h.block k hk (fun hS => (hs k hS).elim hn (fun h1 => by omega))⟩
theorem Ch.alloc {S : List Nat} {a w : World} (h : Ch S a w) (o : Obj) : Ch S a (w.alloc o) :=
  h.trans (T := []) ⟨rfl, rfl, rfl, by simp, fun k hk _ => Below.heap_alloc _ _ _ hk⟩ (by simp)
theorem Ch.drew {S : List Nat} {a w : World} (h : Ch S a w) : Ch S a w.drew := ⟨h.os, h.tape, h.output, h.size, h.block⟩
theorem Ch.setCell {S : List Nat} {a w : World} (h : Ch S a w) {p : Addr} (hp : p.block ∈ S ∨ a.heap.size ≤ p.block) (u : Value) : Ch S a (w.setCell p u) :=
  h.trans (T := [p.block]) ⟨rfl, rfl, rfl, by simp [World.setCell], fun k _ hk => Below.heap_setCell _ _ _ _ (by simpa using hk)⟩ (by simpa using hp)
theorem Ch.grown {S : List Nat} {a w w' : World} {row : Option Nat} (h : Ch S a w) (hg : w.grownBy w' row) (hr : ∀ k, row = some k → k ∈ S ∨ a.heap.size ≤ k) : Ch S a w' :=
  h.trans (T := row.toList) ⟨hg.os, hg.tape, hg.output, hg.size, fun k hk hn => hg.block k hk (fun e => hn (by rw [← e]; simp))⟩ (fun x hx => hr x (by simpa using hx))
theorem Ch.below {a w : World} (h : Ch [] a w) : Below a.heap.size a w := ⟨h.os, h.tape, h.output, h.size, fun k hk => h.block k hk (by simp)⟩
theorem Ch.of_below {a w : World} (h : Below a.heap.size a w) (S : List Nat) : Ch S a w := ⟨h.os, h.tape, h.output, h.size, fun k hk _ => h.block k hk⟩

theorem heap_setCell_here {w : World} {b i : Nat} {c : Array Value} {t : TypeId} {f : Nat × Nat} (v : Value) (h : w.heap[b]? = some (.cells c t f)) : (w.setCell ⟨b, i, none⟩ v).heap[b]? = some (.cells (c.setIfInBounds i v) t f) := by
  simp [World.setCell, Array.getElem?_modify, h]
theorem cell_of_heap {w : World} {b : Nat} {c : Array Value} {t : TypeId} {f : Nat × Nat} (h : w.heap[b]? = some (.cells c t f)) (i : Nat) : w.cell? ⟨b, i, none⟩ = c[i]? := by
  simp [World.cell?, h]
theorem frozen_of_heap {w : World} {b : Nat} {c : Array Value} {t : TypeId} (h : w.heap[b]? = some (.cells c t (0, 0))) (i : Nat) : w.frozen? ⟨b, i, none⟩ = false := by
  simp [World.frozen?, h]
theorem lt_of_heap {w : World} {b : Nat} {o : Obj} (h : w.heap[b]? = some o) : b < w.heap.size := by
  rcases Nat.lt_or_ge b w.heap.size with hl | hl
  · exact hl
  · rw [Array.getElem?_eq_none hl] at h; cases h

theorem ownsRow_keep {w w' : World} {base : Nat} {e : TypeId} {size : Nat} {v : Value} {n : Nat} {xs : List Value} (h : w.ownsRow base e size v n xs) (hk : ∀ g, v.ownBlock = some g → w'.heap[g]? = w.heap[g]?) : w'.ownsRow base e size v n xs := by
  obtain ⟨h1, h2⟩ := h
  refine ⟨h1, ?_⟩
  rcases h2 with h2 | ⟨g, cap, cur, rfl, h3⟩
  · exact .inl h2
  · exact .inr ⟨g, cap, cur, rfl, h3.1, by rw [hk g rfl]; exact h3.2.1, h3.2.2⟩
theorem ownsRow_base {w : World} {base : Nat} {e : TypeId} {size : Nat} {v : Value} {n : Nat} {xs : List Value} (h : w.ownsRow base e size v n xs) : w.ownsRow 0 e size v n xs := by
  obtain ⟨h1, h2⟩ := h
  refine ⟨h1, ?_⟩
  rcases h2 with h2 | ⟨g, cap, cur, rfl, h3⟩
  · exact .inl h2
  · exact .inr ⟨g, cap, cur, rfl, Nat.zero_le _, h3.2⟩
/-- An owned row of one-cell elements reads as its list. -/
theorem Rd.of_owns {w : World} {base : Nat} {e : TypeId} {v : Value} {n : Nat} {xs : List Value} (h : w.ownsRow base e 1 v n xs) : Rd w v xs := by
  obtain ⟨h1, h2⟩ := h
  rw [Nat.mul_one] at h1
  rcases h2 with ⟨rfl, rfl⟩ | ⟨g, cap, cur, rfl, _, hg, hn, _, hc, ht⟩
  · obtain rfl : xs = [] := List.eq_nil_of_length_eq_zero h1
    exact Rd.nil w
  · subst h1
    refine ⟨some ⟨g, 0, none⟩, cap, rfl, hn, fun h => (Option.some_ne_none _ h).elim, fun ad e => ?_⟩
    obtain rfl := Option.some.inj e
    intro j u hj
    rw [Addr.add_lit, Nat.zero_add, cell_of_heap hg]
    rw [Nat.mul_one] at ht
    rw [← ht, List.getElem?_take] at hj
    split at hj
    · simpa using hj
    · cases hj
theorem owns_cap {w : World} {base : Nat} {e : TypeId} {size : Nat} {a : Option Addr} {l c n : Nat} {xs : List Value} (h : w.ownsRow base e size (.slice a l c) n xs) : n ≤ c ∧ c ≤ maxLen := by
  rcases h.2 with ⟨e, rfl⟩ | ⟨g, cap, cur, e, _, _, h1, h2, _⟩
  · exact ⟨Nat.zero_le _, by have := Value.slice.inj e; rw [this.2.2]; exact Nat.zero_le _⟩
  · have := Value.slice.inj e
    rw [this.2.2]; exact ⟨h1, h2⟩
theorem owns_empty (w : World) (e : TypeId) : (w.alloc (.cells #[] e)).ownsRow w.heap.size e 1 (.slice (some ⟨w.heap.size, 0, none⟩) 0 0) 0 [] :=
  ⟨rfl, .inr ⟨w.heap.size, 0, #[], rfl, Nat.le_refl _, heap_alloc_new w _, Nat.le_refl _, Nat.zero_le _, rfl, rfl⟩⟩
theorem owns_ge {w : World} {base : Nat} {e : TypeId} {size : Nat} {v : Value} {n : Nat} {xs : List Value} (h : w.ownsRow base e size v n xs) (g : Nat) (hg : v.ownBlock = some g) : base ≤ g := by
  rcases h.2 with ⟨rfl, _⟩ | ⟨g', cap, cur, rfl, hb, _⟩
  · cases hg
  · obtain rfl := Option.some.inj hg; exact hb
theorem owns_lt {w : World} {base : Nat} {e : TypeId} {size : Nat} {v : Value} {n : Nat} {xs : List Value} (h : w.ownsRow base e size v n xs) (g : Nat) (hg : v.ownBlock = some g) : g < w.heap.size := by
  rcases h.2 with ⟨rfl, _⟩ | ⟨g', cap, cur, rfl, _, hh, _⟩
  · cases hg
  · obtain rfl : g' = g := by simpa [Value.ownBlock] using hg
    exact lt_of_heap hh
/-- A shorter piece of an owned row. -/
theorem owns_take {w : World} {base : Nat} {e : TypeId} {v : Value} {n : Nat} {xs : List Value} (h : w.ownsRow base e 1 v n xs) (k : Nat) (hk : k ≤ n) :
    ∃ a cap, v = .slice a n cap ∧ w.ownsRow base e 1 (.slice a k cap) k (xs.take k) := by
  obtain ⟨h1, h2⟩ := h
  rw [Nat.mul_one] at h1
  rcases h2 with ⟨rfl, rfl⟩ | ⟨g, cap, cur, rfl, hb, hg, hn, hm, hc, ht⟩
  · obtain rfl : k = 0 := by omega
    exact ⟨none, 0, rfl, by simp, .inl ⟨rfl, rfl⟩⟩
  · refine ⟨some ⟨g, 0, none⟩, cap, rfl, by rw [List.length_take]; omega, .inr ⟨g, cap, cur, rfl, hb, hg, by omega, hm, hc, ?_⟩⟩
    rw [Nat.mul_one] at ht ⊢
    rw [← ht, List.take_take, Nat.min_eq_left hk]
/-- The bytes as cells. -/
def bytesV (l : List UInt8) : List Value := l.map fun c => Value.int .u8 (c.toNat : Int)
theorem bytesV_length (l : List UInt8) : (bytesV l).length = l.length := by simp [bytesV]
theorem bytesV_append (l m : List UInt8) : bytesV (l ++ m) = bytesV l ++ bytesV m := by simp [bytesV]
theorem bytesV_take (l : List UInt8) (k : Nat) : bytesV (l.take k) = (bytesV l).take k := by simp [bytesV, List.map_take]
theorem bytesV_one (l : List UInt8) : ∀ u ∈ bytesV l, u.oneCell' = true := by
  intro u hu
  obtain ⟨_, _, rfl⟩ := List.mem_map.1 hu
  rfl

/-- W is w but for block R. -/
structure Only (R : Nat) (w W : World) : Prop where
  os : W.os = w.os
  tape : W.tape = w.tape
  output : W.output = w.output
  size : W.heap.size = w.heap.size
  block : ∀ k, k ≠ R → W.heap[k]? = w.heap[k]?
theorem Only.refl (R : Nat) (w : World) : Only R w w := ⟨rfl, rfl, rfl, rfl, fun _ _ => rfl⟩
theorem Only.setCell {R : Nat} {w W : World} (h : Only R w W) {i : Nat} {v : Value} : Only R w (W.setCell ⟨R, i, none⟩ v) :=
  ⟨h.os, h.tape, h.output, by rw [← h.size]; simp [World.setCell], fun k hk => (Below.heap_setCell _ _ _ _ hk).trans (h.block k hk)⟩
theorem Only.drew {R : Nat} {w W : World} (h : Only R w W) : Only R w W.drew := ⟨h.os, h.tape, h.output, h.size, h.block⟩
theorem Only.ch {R : Nat} {S : List Nat} {a w W : World} (h : Ch S a w) (k : Only R w W) (hR : R ∈ S ∨ a.heap.size ≤ R) : Ch S a W :=
  h.trans (T := [R]) ⟨k.os, k.tape, k.output, by rw [k.size]; exact Nat.le_refl _, fun i _ hi => k.block i (by simpa using hi)⟩ (by simpa using hR)

/-- A shorter piece of what is read. -/
theorem Rd.take {w : World} {a : Option Addr} {l c : Nat} {b : List UInt8} (h : Rd w (.slice a l c) (bytesV b)) (n : Nat) (hn : n ≤ b.length) : Rd w (.slice a n c) (bytesV (b.take n)) := by
  obtain ⟨a', cap, e, h1, h2, h3⟩ := h
  obtain ⟨rfl, rfl, rfl⟩ := Value.slice.inj e
  rw [bytesV_length] at h1
  refine ⟨a, c, ?_, ?_, h2, fun ad e j u hj => h3 ad e j u ?_⟩
  · rw [bytesV_length, List.length_take, Nat.min_eq_left hn]
  · rw [bytesV_length, List.length_take]; omega
  · rw [bytesV_take, List.getElem?_take] at hj
    split at hj
    · exact hj
    · cases hj
end Go.Proofs.YtjcimajkjnjdpabGreatDoor

/- DERIVED. An argument's reading, opened shape by shape, with the form's reach. No program in sight. -/
namespace Go.Proofs.YtjcimajkjnjdpabGreatDoor
open Go.RowKit Go.ChangeShapes Go.WideShapes

/-- The cells cs read as a value of type t, and no list in it is longer than the reach. -/
def Arg {H : Type} (enc : TypeId × Value → H) (P : Program) (w : World) (fuel : Nat) (t : TypeId) (cs : List Value) : Prop :=
  ∃ x, DataW.trod enc P w 0 (fun _ => true) true fuel t cs = some x ∧ ∀ n ∈ x.1.weights P t, n ≤ 140737488351232
section
variable {H : Type} {enc : TypeId × Value → H} {P : Program} {w : World} {fuel : Nat} {t : TypeId} {cs : List Value}

theorem arg_of {ts : List TypeId} {ds : List (DataW H)} (hz : (DataW.weightsEach P ts ds).all (· ≤ reachBytes) = true) {j : Nat} {d : DataW H} (ht : ts[j]? = some t) (hd : ds[j]? = some d) {v : Value} {p : List MemPlace}
    (h : DataW.Trod enc P w 0 (fun _ => true) true t v d p) : ∃ fuel, Arg enc P w fuel t v.cells.toList := by
  obtain ⟨fuel, hf⟩ := h
  refine ⟨fuel, _, hf, fun n hn => ?_⟩
  have := List.all_eq_true.1 hz n (DataW.weights_mem_each ht hd n hn)
  exact of_decide_eq_true this
theorem Arg.bool (h : Arg enc P w fuel t cs) (ht : P.underlying t = some .bool) : ∃ b, cs = [.bool b] := by
  obtain ⟨x, hx, _⟩ := h
  obtain ⟨b, hb, _⟩ := DataW.trod_bool ht hx
  exact ⟨b, hb⟩
theorem Arg.int (h : Arg enc P w fuel t cs) {k : IntKind} (ht : P.underlying t = some (.int k)) : ∃ n, cs = [.int k n] ∧ (Lit.int k n).wf = true := by
  obtain ⟨x, hx, _⟩ := h
  obtain ⟨n, hn, _, hw⟩ := DataW.trod_int ht hx
  exact ⟨n, hn, hw⟩
theorem Arg.string (h : Arg enc P w fuel t cs) (ht : P.underlying t = some .string) : ∃ s : ByteArray, cs = [.string s] ∧ s.size ≤ 140737488351232 := by
  obtain ⟨x, hx, hr⟩ := h
  obtain ⟨s, hs, hx', _⟩ := DataW.trod_string ht hx
  subst hx'
  refine ⟨s, hs, ?_⟩
  have := hr s.data.toList.length (by simp [DataW.weights])
  simpa using this
theorem weightsAll_mem {e : TypeId} {d : DataW H} : ∀ {l : List (DataW H)}, d ∈ l → ∀ n ∈ d.weights P e, n ∈ DataW.weightsAll P e l
  | x :: l, hd, n, hn => by
    simp only [DataW.weightsAll, List.mem_append]
    rcases List.mem_cons.1 hd with rfl | hd
    · exact .inl hn
    · exact .inr (weightsAll_mem hd n hn)
theorem Arg.slice (h : Arg enc P w fuel t cs) {e : TypeId} (ht : P.underlying t = some (.slice e)) :
    ∃ a len cap, cs = [.slice a len cap] ∧ len ≤ cap ∧ cap ≤ maxLen ∧ cap * P.bytesOf e ≤ 140737488351232 ∧ (a = none → cap = 0) ∧
      ∀ ad, a = some ad → ∀ i, i < len → ∃ cs', w.cells? 0 (ad.add (i * P.cellsOf e)) (P.cellsOf e) = some cs' ∧ Arg enc P w (fuel - 1) e cs' := by
  obtain ⟨x, hx, hr⟩ := h
  rcases DataW.trod_slice ht hx with ⟨rfl, _⟩ | ⟨a, len, cap, elems, rest, n, rfl, rfl, hxx, _, hl, hm, hlen, hel, hsp, _⟩
  · exact ⟨none, 0, 0, rfl, Nat.le_refl _, Nat.zero_le _, by omega, fun _ => rfl, fun ad h => by cases h⟩
  · obtain ⟨hrest, _⟩ := hsp rfl
    subst hxx
    refine ⟨some a, len, cap, rfl, hl, hm, ?_, fun h => (Option.some_ne_none _ h).elim, fun ad ha i hi => ?_⟩
    · have := hr ((elems.length + rest.length) * P.bytesOf e) (by simp [DataW.weights, ht])
      rw [hlen, hrest, show len + (cap - len) = cap from by omega] at this
      exact this
    · obtain rfl := Option.some.inj ha
      have := hel i hi
      rw [List.getElem?_eq_getElem (by omega)] at this
      obtain ⟨cs', h1, h2⟩ := Option.bind_eq_some_iff.1 this
      refine ⟨cs', h1, _, h2, fun m hm => hr m ?_⟩
      simp only [DataW.weights, ht, List.mem_cons, List.mem_append]
      exact .inr (.inl (weightsAll_mem (List.mem_map.2 ⟨elems[i], List.getElem_mem _, rfl⟩) m hm))
theorem weightsEach_mem {fs : List Field} {xs : List (DataW H × List MemPlace)} {j : Nat} {f : Field} {x : DataW H × List MemPlace} (hf : fs[j]? = some f) (hx : xs[j]? = some x) (n : Nat) (hn : n ∈ x.1.weights P f.type) :
    n ∈ DataW.weightsEach P (fs.map (·.type)) (xs.map (·.1)) :=
  DataW.weights_mem_each (j := j) (by rw [List.getElem?_map, hf]; rfl) (by rw [List.getElem?_map, hx]; rfl) n hn
theorem Arg.struct (h : Arg enc P w fuel t cs) {fs : Array Field} (ht : P.underlying t = some (.struct fs)) :
    cs.length = P.cellsOf t ∧ ∀ (j : Nat) (f : Field), fs[j]? = some f → Arg enc P w (fuel - 1) f.type ((cs.drop f.offset).take (P.cellsOf f.type)) := by
  obtain ⟨x, hx, hr⟩ := h
  obtain ⟨xs, n, hn, rfl, hl, hlen, hf⟩ := DataW.trod_struct ht hx
  refine ⟨hl, fun j f hj => ?_⟩
  have h1 := hf j f hj
  have hjl : j < xs.length := by rw [hlen]; exact (Array.getElem?_eq_some_iff.1 hj).1
  rw [List.getElem?_eq_getElem hjl] at h1
  subst hn
  refine ⟨xs[j], h1, fun m hm => hr m ?_⟩
  simp only [DataW.weights, ht]
  exact weightsEach_mem (j := j) (by simpa using hj) (List.getElem?_eq_getElem hjl) m hm
end
end Go.Proofs.YtjcimajkjnjdpabGreatDoor

/- DERIVED. The form's reach, argument by argument. -/
namespace Go.Proofs.YtjcimajkjnjdpabGreatDoor
open Go.RowKit Go.ChangeShapes Go.WideShapes

/-- A slice that was read: its length, its capacity, its bytes. -/
theorem reach_slice {H : Type} {enc : TypeId × Value → H} {P : Program} {W : World} {ts : List TypeId} {ds : List (DataW H)} (h : (DataW.weightsEach P ts ds).all (· ≤ reachBytes) = true) {j : Nat} {t e : TypeId} {d : DataW H} (ht : ts[j]? = some t) (hd : ds[j]? = some d)
    (hu : P.underlying t = some (.slice e)) {a : Option Addr} {len cap : Nat} {p : List MemPlace} (hr : DataW.Trod enc P W 0 (fun _ => true) true t (.slice a len cap) d p) : len ≤ cap ∧ cap ≤ maxLen ∧ cap * P.bytesOf e ≤ 140737488351232 ∧ (a = none → cap = 0) := by
  obtain ⟨fuel, hf⟩ := hr
  rcases Go.Deep.open_slice hu hf with ⟨hcs, _⟩ | ⟨x, len', cap', m, n, D, Pl, hcs, _, hl, hm, hmm, hx, _⟩
  · simp [Value.cells] at hcs
    obtain ⟨rfl, rfl, rfl⟩ := hcs
    exact ⟨Nat.le_refl _, Nat.zero_le _, by rw [Nat.zero_mul]; exact Nat.zero_le _, fun _ => rfl⟩
  · simp [Value.cells] at hcs
    obtain ⟨rfl, rfl, rfl⟩ := hcs
    simp only [if_true] at hmm
    subst hmm
    have hdd := (Prod.mk.inj hx).1
    have := sized_slice h ht (hd.trans (congrArg some hdd)) hu
    simp only [List.length_map, List.length_range] at this
    rw [show len + (m - len) = m from by omega] at this
    exact ⟨hl, hm, this, fun h => (Option.some_ne_none _ h).elim⟩
end Go.Proofs.YtjcimajkjnjdpabGreatDoor

/- DERIVED. Texts, and lists of texts, in memory. -/
namespace Go.Proofs.YtjcimajkjnjdpabGreatDoor
open Go.RowKit Go.ChangeShapes Go.WideShapes
set_option linter.unusedVariables false

theorem Below.drewN {n : Nat} {w w' : World} (h : Below n w w') (k : Nat) : Below n w (w'.drewN k) := ⟨h.os, h.tape, h.output, h.size, h.block⟩

theorem below_of_ch {S : List Nat} {B : Nat} {w w' : World} (h : Ch S w w') (hS : ∀ k ∈ S, B ≤ k) (hB : B ≤ w.heap.size) : Below B w w' :=
  ⟨h.os, h.tape, h.output, h.size, fun k hk => h.block k (by omega) (fun hs => by have := hS k hs; omega)⟩
theorem cells_one {w : World} {a : Addr} {cs : List Value} (h : w.cells? 0 a 1 = some cs) : ∃ v, cs = [v] ∧ w.cell? a = some v := by
  unfold World.cells? at h
  rw [if_pos (Nat.zero_le _)] at h
  simp [List.range, List.range.loop] at h
  cases hc : w.cell? a with
  | none => rw [show a.add 0 = a from by simp [Addr.add]] at h; rw [hc] at h; simp at h
  | some v =>
    rw [show a.add 0 = a from by simp [Addr.add]] at h
    rw [hc] at h
    simp at h
    exact ⟨v, h.symm, rfl⟩
theorem cell_spot {w : World} {a : Addr} {v : Value} (h : w.cell? a = some v) : a.spot = none := by
  unfold World.cell? at h
  split at h
  · split at h
    · cases h
    · rename_i hs; simpa using hs
  · cases h
theorem str_append (a b : List UInt8) : (⟨a.toArray⟩ : ByteArray) ++ ⟨b.toArray⟩ = ⟨(a ++ b).toArray⟩ := by
  apply ByteArray.ext
  rw [ByteArray.data_append]
  simp
theorem str_size (a : List UInt8) : (⟨a.toArray⟩ : ByteArray).size = a.length := by
  show a.toArray.size = a.length
  simp
theorem str_take (a : List UInt8) (k : Nat) : (⟨a.toArray⟩ : ByteArray).extract 0 k = ⟨(a.take k).toArray⟩ := by
  apply ByteArray.ext
  rw [ByteArray.data_extract]
  apply Array.ext'
  simp

def strV (l : List UInt8) : Value := .string ⟨l.toArray⟩
def strsV (ls : List (List UInt8)) : List Value := ls.map strV
theorem strsV_length (ls : List (List UInt8)) : (strsV ls).length = ls.length := by simp [strsV]
theorem strsV_one (ls : List (List UInt8)) : ∀ u ∈ strsV ls, u.oneCell' = true := by
  intro u hu
  obtain ⟨_, _, rfl⟩ := List.mem_map.1 hu
  rfl
theorem strV_inj {a b : List UInt8} : strV a = strV b ↔ a = b := by simp [strV]
theorem info9 : (Tryz.prog.info? 9).map (fun i => (i.zero, i.size, i.bytes)) = some (some (.string ByteArray.empty), 1, 16) := by kernel_rfl

/-- A list of strings that is read. -/
def RdStrs (w : World) (a : Option Addr) (ls : List (List UInt8)) : Prop :=
  ls ≠ [] → ∃ b o, a = some ⟨b, o, none⟩ ∧ ∀ i l, ls[i]? = some l → w.cell? ⟨b, o + i, none⟩ = some (.string ⟨l.toArray⟩)
theorem RdStrs.below {w w' : World} {a : Option Addr} {ls : List (List UInt8)} (h : RdStrs w a ls) (hb : Below w.heap.size w w') : RdStrs w' a ls := by
  intro hne
  obtain ⟨b, o, h1, h2⟩ := h hne
  exact ⟨b, o, h1, fun i l hi => below_keeps hb _ _ (h2 i l hi)⟩
theorem RdStrs.of_owns {w : World} {base n c : Nat} {a : Option Addr} {e : TypeId} {ls : List (List UInt8)} (h : w.ownsRow base e 1 (.slice a n c) n (strsV ls)) : RdStrs w a ls := by
  intro hne
  rcases h.2 with ⟨e1, e2⟩ | ⟨g, cap, cur, e1, _, hg, _, _, _, ht⟩
  · have h1 := h.1
    rw [e2, strsV_length] at h1
    exact absurd (List.eq_nil_of_length_eq_zero (by omega)) hne
  · obtain ⟨rfl, _, _⟩ := Value.slice.inj e1
    refine ⟨g, 0, rfl, fun i l hi => ?_⟩
    rw [cell_of_heap hg]
    have hj : (strsV ls)[i]? = some (strV l) := by simp [strsV, hi]
    rw [Nat.mul_one] at ht
    rw [← ht, List.getElem?_take] at hj
    split at hj
    · rw [Nat.zero_add, ← Array.getElem?_toList]; exact hj
    · cases hj
theorem grow_below {w wr w' : World} {n : Nat} {o : Obj} {v : Value} (hb : Below w.heap.size w wr) (hg : ((wr.drewN n).alloc o).grownBy w' v.ownBlock) (hv : ∀ g, v.ownBlock = some g → w.heap.size ≤ g) : Below w.heap.size w w' := by
  have h : Ch [] w ((wr.drewN n).alloc o) := Ch.alloc (w := wr.drewN n) ⟨hb.os, hb.tape, hb.output, hb.size, fun k hk _ => hb.block k hk⟩ o
  exact (h.grown hg (fun k hk => .inr (hv k hk))).below
end Go.Proofs.YtjcimajkjnjdpabGreatDoor

/- DERIVED. Lists of texts in memory, continued. -/
namespace Go.Proofs.YtjcimajkjnjdpabGreatDoor
open Go.RowKit Go.ChangeShapes Go.WideShapes
set_option linter.unusedVariables false

theorem one_src (w : World) (r : List UInt8) (t : TypeId) : Src Tryz.prog 1 66 (.slice (some ⟨w.heap.size, 0, none⟩) 1 1) 1 [strV r] (w.alloc (.cells #[strV r] t)) := by
  have h : Rd (w.alloc (.cells #[strV r] t)) (.slice (some ⟨w.heap.size, 0, none⟩) 1 1) [strV r] := by
    refine ⟨_, 1, rfl, Nat.le_refl _, fun h => (Option.some_ne_none _ h).elim, fun ad e j u hj => ?_⟩
    obtain rfl := Option.some.inj e
    rw [Addr.add_lit, Nat.zero_add, cell_of_heap (heap_alloc_new w _)]
    simpa using hj
  exact h.src Tryz.underlying66 (strsV_one [r])
set_option maxRecDepth 100000 in
theorem strs_of_arg {H : Type} {enc : TypeId × Value → H} {w : World} {fuel : Nat} {v : Value} (h : Arg enc Tryz.prog w fuel 66 [v]) :
    ∃ (ls : List (List UInt8)) (a : Option Addr) (c : Nat), v = .slice a ls.length c ∧ RdStrs w a ls ∧ ls.length ≤ 140737488351232 ∧ ∀ r ∈ ls, r.length ≤ 140737488351232 := by
  obtain ⟨a, len, cap, hv, hl, hm, hb, hn, hc⟩ := h.slice Tryz.underlying66
  obtain rfl : v = .slice a len cap := by simpa using hv
  have hlen : len ≤ 140737488351232 := by
    rw [show Tryz.prog.bytesOf 9 = 16 from by kernel_rfl] at hb
    omega
  have key : ∀ i, i < len → ∃ l : List UInt8, ∀ ad, a = some ad → ad.spot = none ∧ w.cell? ⟨ad.block, ad.off + i, none⟩ = some (.string ⟨l.toArray⟩) ∧ l.length ≤ 140737488351232 := by
    intro i hi
    cases a with
    | none => have := hn rfl; omega
    | some ad =>
      have hs : ad.spot = none := by
        obtain ⟨cs', h1, _⟩ := hc ad rfl 0 (by omega)
        rw [show Tryz.prog.cellsOf 9 = 1 from by kernel_rfl] at h1
        obtain ⟨v, rfl, h3⟩ := cells_one h1
        rw [show ad.add (0 * 1) = ad from by simp [Addr.add]] at h3
        exact cell_spot h3
      obtain ⟨cs', h1, h2⟩ := hc ad rfl i hi
      rw [show Tryz.prog.cellsOf 9 = 1 from by kernel_rfl, Nat.mul_one] at h1
      obtain ⟨v, rfl, h3⟩ := cells_one h1
      obtain ⟨s, e, hsz⟩ := h2.string Tryz.underlying9
      obtain rfl : v = .string s := by simpa using e
      obtain ⟨b, o, sp⟩ := ad
      simp only at hs; subst hs
      rw [Addr.add_lit] at h3
      refine ⟨s.data.toList, fun ad' e => ?_⟩
      obtain rfl := Option.some.inj e
      exact ⟨rfl, h3, by simpa using hsz⟩
  obtain ⟨f, hf⟩ := Go.Deep.choose_lt (α := List UInt8) key
  have hall : a = none → len = 0 := fun e => by have := hn e; omega
  refine ⟨(List.range len).map f, a, cap, by simp, ?_, by simpa using hlen, ?_⟩
  · intro hne
    have h0 : 0 < len := by
      rcases Nat.eq_zero_or_pos len with h | h
      · subst h; exact absurd rfl hne
      · exact h
    cases a with
    | none => have := hn rfl; omega
    | some ad =>
      obtain ⟨b, o, s⟩ := ad
      have hs := (hf 0 h0 _ rfl).1
      simp only at hs; subst hs
      refine ⟨b, o, rfl, fun i l hi => ?_⟩
      have hx : i < len := by
        have := (List.getElem?_eq_some_iff.1 hi).1
        simpa using this
      rw [List.getElem?_map, List.getElem?_range hx] at hi
      obtain rfl := Option.some.inj hi
      exact (hf _ hx _ rfl).2.1
  · intro r hr
    obtain ⟨i, hi, rfl⟩ := List.mem_map.1 hr
    have hi' : i < len := List.mem_range.1 hi
    cases a with
    | none => have := hall rfl; omega
    | some ad => exact (hf _ hi' _ rfl).2.2
end Go.Proofs.YtjcimajkjnjdpabGreatDoor

/- DERIVED. A region that draws its order, walked once in the order of the text, in a family of worlds that the calls stay in. No program in sight. -/
namespace Go.Proofs.YtjcimajkjnjdpabGreatDoor
open Go.RowKit

theorem wp_region_fam {P : Program} {id : Nat} {Q : Exit → Act → World → Prop} {a : Act} {w : World} {l : List Oper} {ι : Type} (F : ι → World) (n0 : ι) (h0 : F n0 = { w with drawn := w.drawn + 1 }) (hm : P.follows .mixedOrders = true) (hB : Region.lexB .any l.toArray = true)
    (h : wpQuiet P l.toArray (fun w' => ∃ n, w' = F n) (fun a' => ∀ w', (∃ n, w' = F n) → Q .normal a' w') l a) : (Code.region id l.toArray true).wp P Q a w :=
  wp_region_quiet (C := fun w' => ∃ n, w' = F n) hm hB ⟨n0, h0.symm⟩ (by simpa using h)
/-- The worlds that keep all that was there. -/
theorem below_fam (w : World) : ∃ (ι : Type) (F : ι → World), (∀ k, ∃ n0, F n0 = w.drewN k) ∧ (∀ n, Below w.heap.size w (F n)) ∧ ∀ w', Below w.heap.size w w' → ∃ m, w' = F m :=
  ⟨{ w' : World // Below w.heap.size w w' }, Subtype.val, fun k => ⟨⟨w.drewN k, ⟨rfl, rfl, rfl, Nat.le_refl _, fun _ _ => rfl⟩⟩, rfl⟩, fun n => n.2, fun w' h => ⟨⟨w', h⟩, rfl⟩⟩
/-- A call that only makes memory stays in that family. -/
theorem calls_fam {P : Program} {f : FuncId} {args : Array Value} {v : Value} {w : World} {ι : Type} {F : ι → World} (hF : ∀ n, Below w.heap.size w (F n)) (hG : ∀ w', Below w.heap.size w w' → ∃ m, w' = F m)
    (h : ∀ W, Below w.heap.size w W → Calls P f args W (fun e w' => e = .returned v ∧ Below W.heap.size W w')) : ∀ n, Calls P f args (F n) (fun e w' => e = .returned v ∧ ∃ m, w' = F m) :=
  fun n => (h _ (hF n)).mono fun _ _ ⟨h1, h2⟩ => ⟨h1, hG _ ((hF n).trans (h2.mono (hF n).size))⟩
end Go.Proofs.YtjcimajkjnjdpabGreatDoor

/- DERIVED. The order of texts, byte by byte; lists of pairs by rising keys. No program in sight. -/
namespace Go.Proofs.YtjcimajkjnjdpabGreatDoor
open Go

theorem less_irrefl : ∀ a : List UInt8, Op.bytesLess a a = false
  | [] => rfl
  | x :: a => by simp [Op.bytesLess, less_irrefl a, UInt8.lt_irrefl]
theorem less_trans : ∀ a b c : List UInt8, Op.bytesLess a b = true → Op.bytesLess b c = true → Op.bytesLess a c = true
  | _, _, [], _, h => by simp [Op.bytesLess] at h
  | _, [], _ :: _, h, _ => by simp [Op.bytesLess] at h
  | [], _ :: _, _ :: _, _, _ => by simp [Op.bytesLess]
  | x :: a, y :: b, z :: c, h1, h2 => by
    simp only [Op.bytesLess, Bool.or_eq_true, Bool.and_eq_true, decide_eq_true_eq, beq_iff_eq] at h1 h2 ⊢
    rcases h1 with h1 | ⟨rfl, h1⟩
    · rcases h2 with h2 | ⟨rfl, _⟩
      · exact .inl (UInt8.lt_trans h1 h2)
      · exact .inl h1
    · rcases h2 with h2 | ⟨rfl, h2⟩
      · exact .inl h2
      · exact .inr ⟨rfl, less_trans a b c h1 h2⟩
theorem less_total : ∀ a b : List UInt8, Op.bytesLess a b = false → Op.bytesLess b a = false → a = b
  | [], [], _, _ => rfl
  | [], _ :: _, h, _ => by simp [Op.bytesLess] at h
  | _ :: _, [], _, h => by simp [Op.bytesLess] at h
  | x :: a, y :: b, h1, h2 => by
    simp only [Op.bytesLess, Bool.or_eq_false_iff, Bool.and_eq_false_iff, decide_eq_false_iff_not, beq_eq_false_iff_ne] at h1 h2
    obtain rfl : x = y := by
      rcases UInt8.lt_or_le x y with h | h
      · exact absurd h h1.1
      · rcases UInt8.lt_or_eq_of_le h with h | h
        · exact absurd h h2.1
        · exact h.symm
    rw [less_total a b (h1.2.resolve_left (fun h => h rfl)) (h2.2.resolve_left (fun h => h rfl))]
theorem less_asymm (a b : List UInt8) (h : Op.bytesLess a b = true) : Op.bytesLess b a = false := by
  cases hb : Op.bytesLess b a
  · rfl
  · have := less_trans a b a h hb
    rw [less_irrefl] at this
    cases this
theorem less_ne {a b : List UInt8} (h : Op.bytesLess a b = true) : a ≠ b := by
  rintro rfl
  rw [less_irrefl] at h
  cases h

/-- Pairs of texts. -/
abbrev Pr := List UInt8 × List UInt8
def Srt (ps : List Pr) : Prop := ps.Pairwise (fun a b => Op.bytesLess a.1 b.1 = true)
/-- Where a key is, or would be. -/
structure Pos (ps : List Pr) (k : List UInt8) (i : Nat) : Prop where
  le : i ≤ ps.length
  low : ∀ t p, t < i → ps[t]? = some p → Op.bytesLess p.1 k = true
  high : ∀ t p, i ≤ t → ps[t]? = some p → Op.bytesLess p.1 k = false

theorem Srt.lt {ps : List Pr} (h : Srt ps) {i j : Nat} {p q : Pr} (hij : i < j) (hi : ps[i]? = some p) (hj : ps[j]? = some q) : Op.bytesLess p.1 q.1 = true := by
  obtain ⟨h1, rfl⟩ := List.getElem?_eq_some_iff.1 hi
  obtain ⟨h2, rfl⟩ := List.getElem?_eq_some_iff.1 hj
  exact List.pairwise_iff_getElem.1 h i j h1 h2 hij
theorem Srt.inj {ps : List Pr} (h : Srt ps) {p q : Pr} (hp : p ∈ ps) (hq : q ∈ ps) (e : p.1 = q.1) : p = q := by
  obtain ⟨i, hi⟩ := List.mem_iff_getElem?.1 hp
  obtain ⟨j, hj⟩ := List.mem_iff_getElem?.1 hq
  rcases Nat.lt_trichotomy i j with hl | rfl | hl
  · exact absurd e (less_ne (h.lt hl hi hj))
  · rw [hi] at hj; exact Option.some.inj hj
  · exact absurd e.symm (less_ne (h.lt hl hj hi))
/-- At the place of a key that is there stands its pair. -/
theorem Pos.at {ps : List Pr} {k : List UInt8} {i : Nat} (h : Pos ps k i) (hs : Srt ps) {v : List UInt8} (hm : (k, v) ∈ ps) : ps[i]? = some (k, v) := by
  obtain ⟨j, hj⟩ := List.mem_iff_getElem?.1 hm
  rcases Nat.lt_trichotomy i j with hl | rfl | hl
  · have hi : i < ps.length := by have := (List.getElem?_eq_some_iff.1 hj).1; omega
    have h1 := List.getElem?_eq_getElem hi
    have h2 := h.high i _ (Nat.le_refl _) h1
    rw [hs.lt hl h1 hj] at h2
    cases h2
  · exact hj
  · have h2 := h.low j _ hl hj
    rw [less_irrefl] at h2
    cases h2
theorem Pos.not_at {ps : List Pr} {k : List UInt8} {i : Nat} (h : Pos ps k i) (hm : ∀ v, (k, v) ∉ ps) (p : Pr) (hp : ps[i]? = some p) : p.1 ≠ k ∧ Op.bytesLess k p.1 = true := by
  have hne : p.1 ≠ k := fun e => hm p.2 (by rw [← e]; exact List.mem_of_getElem? hp)
  refine ⟨hne, ?_⟩
  cases hb : Op.bytesLess k p.1
  · exact absurd (less_total _ _ (h.high i p (Nat.le_refl _) hp) hb) hne
  · rfl
/-- A new pair at its place. -/
def insAt (ps : List Pr) (i : Nat) (p : Pr) : List Pr := ps.take i ++ p :: ps.drop i
theorem insAt_length (ps : List Pr) (i : Nat) (p : Pr) (h : i ≤ ps.length) : (insAt ps i p).length = ps.length + 1 := by
  simp [insAt]; omega
theorem mem_insAt {ps : List Pr} {i : Nat} {p q : Pr} : q ∈ insAt ps i p ↔ q = p ∨ q ∈ ps := by
  have : q ∈ ps ↔ q ∈ ps.take i ∨ q ∈ ps.drop i := by rw [← List.mem_append, List.take_append_drop]
  rw [this, insAt, List.mem_append, List.mem_cons]
  constructor
  · rintro (h | h | h)
    · exact .inr (.inl h)
    · exact .inl h
    · exact .inr (.inr h)
  · rintro (h | h | h)
    · exact .inr (.inl h)
    · exact .inl h
    · exact .inr (.inr h)
theorem Pos.srt {ps : List Pr} {k v : List UInt8} {i : Nat} (h : Pos ps k i) (hs : Srt ps) (hm : ∀ v, (k, v) ∉ ps) : Srt (insAt ps i (k, v)) := by
  unfold insAt Srt
  have hsp : Srt (ps.take i ++ ps.drop i) := by rw [List.take_append_drop]; exact hs
  obtain ⟨h1, h2, h3⟩ := List.pairwise_append.1 hsp
  refine List.pairwise_append.2 ⟨h1, List.pairwise_cons.2 ⟨?_, h2⟩, ?_⟩
  · intro q hq
    obtain ⟨j, hj⟩ := List.mem_iff_getElem?.1 hq
    rw [List.getElem?_drop] at hj
    cases hb : Op.bytesLess k q.1
    · have := less_total _ _ (h.high (i + j) q (by omega) hj) hb
      exact absurd (by rw [← this]; exact List.mem_of_getElem? hj) (hm q.2)
    · rfl
  · intro p hp q hq
    rcases List.mem_cons.1 hq with rfl | hq
    · obtain ⟨j, hj⟩ := List.mem_iff_getElem?.1 hp
      rw [List.getElem?_take] at hj
      split at hj
      · exact h.low j p (by assumption) hj
      · cases hj
    · exact h3 p hp q hq
/-- Two sorted lists with the same pairs are the same. -/
theorem srt_ext : ∀ {ps qs : List Pr}, Srt ps → Srt qs → (∀ p, p ∈ ps ↔ p ∈ qs) → ps = qs
  | [], [], _, _, _ => rfl
  | [], q :: _, _, _, h => absurd ((h q).2 (List.mem_cons_self ..)) (by simp)
  | p :: _, [], _, _, h => absurd ((h p).1 (List.mem_cons_self ..)) (by simp)
  | p :: ps, q :: qs, h1, h2, h => by
    obtain ⟨a1, a2⟩ := List.pairwise_cons.1 h1
    obtain ⟨b1, b2⟩ := List.pairwise_cons.1 h2
    have e : p = q := by
      rcases List.mem_cons.1 ((h p).1 (List.mem_cons_self ..)) with e | e
      · exact e
      · rcases List.mem_cons.1 ((h q).2 (List.mem_cons_self ..)) with f | f
        · exact f.symm
        · have g1 := b1 p e
          have g2 := a1 q f
          rw [less_asymm _ _ g1] at g2
          cases g2
    subst e
    rw [srt_ext a2 b2 (fun r => ?_)]
    constructor
    · intro hr
      rcases List.mem_cons.1 ((h r).1 (List.mem_cons_of_mem _ hr)) with e | e
      · subst e
        have := a1 r hr
        rw [less_irrefl] at this; cases this
      · exact e
    · intro hr
      rcases List.mem_cons.1 ((h r).2 (List.mem_cons_of_mem _ hr)) with e | e
      · subst e
        have := b1 r hr
        rw [less_irrefl] at this; cases this
      · exact e
theorem srt_nil : Srt [] := List.Pairwise.nil
end Go.Proofs.YtjcimajkjnjdpabGreatDoor
