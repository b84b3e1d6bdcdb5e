/- DERIVED. Texts of this claim, put together: Mem, Sq, WordsA, Ord, RowN, KeyRow, SolveMath, PathMath. -/
import Derived.Deep.AppendSrc
import Derived.Laws.AppendOwn
import Derived.Deep.RegionLaw
import Derived.WalkKit
import Derived.Lib.Hide
import Derived.Test.YtaagkndhgicifaaGreatRows
import Derived.WalkSpells
import Derived.WalkLawsBesides
import Derived.BigRegion
import Derived.Deep.QuietTactic
import Derived.BigQuiet
import Derived.ProofKit
import Derived.OpenShut
import Derived.Test.YtaagkndhgicifaaGreatArg
import GoSem.Op.String
import Derived.Lib.AppendZerosOnto
import Derived.Laws.CopyRow
namespace Go.Proofs.YtaagkndhgicifaaGreat
open Go.RowKit
def Rd (w : World) (v : Value) (xs : List Value) : Prop :=
 ∃ a cap, v = .slice a xs.length cap ∧ xs.length ≤ cap ∧ (a = none → cap = 0) ∧ ∀ ad, a = some ad → ∀ j u, xs[j]? = some u → w.cell? (ad.add j) = some u
theorem Rd.nil (w : World) : Rd w (.slice none 0 0) [] := ⟨none, 0, rfl, Nat.le_refl _, fun _ => rfl, fun _ h => by cases h⟩
theorem Rd.mono {w w' : World} {v : Value} {xs : List Value} (h : Rd w v xs) (hk : ∀ a u, w.cell? a = some u → w'.cell? a = some u) : Rd w' v xs := by
 obtain ⟨a, cap, rfl, h1, h2, h3⟩ := h
 exact ⟨a, cap, rfl, h1, h2, fun ad e j u hj => hk _ _ (h3 ad e j u hj)⟩
theorem cell_lt {w : World} {a : Addr} {u : Value} (h : w.cell? a = some u) : a.block < w.heap.size := by
 unfold World.cell? at h
 rcases Nat.lt_or_ge a.block w.heap.size with hl | hl
 ·exact hl
 ·rw [Array.getElem?_eq_none hl] at h; cases h
theorem bkp {w w' : World} (h : Below w.heap.size w w') (a : Addr) (u : Value) (hc : w.cell? a = some u) : w'.cell? a = some u := by
 rw [h.cell (cell_lt hc)]; exact hc
theorem Rd.below {w w' : World} {v : Value} {xs : List Value} (h : Rd w v xs) (hb : Below w.heap.size w w') : Rd w' v xs := h.mono (bkp hb)
theorem Rd.src {P : Program} {w : World} {tx e' : TypeId} (hk : P.underlying tx = some (.slice e')) {v : Value} {xs : List Value} (h : Rd w v xs) (h1 : ∀ u ∈ xs, u.oneCell' = true) : Src P 1 tx v xs.length xs w := by
 obtain ⟨a, cap, rfl, h2, h3, h4⟩ := h
 cases a with
 | none =>
  obtain rfl := h3 rfl
  obtain rfl : xs = [] := List.eq_nil_of_length_eq_zero (by omega)
  exact Src.ofNil w hk 0
 | some ad =>
  exact Src.ofSlice w hk ad xs.length cap xs (by omega) (h4 ad rfl) h1
theorem run_append_srcs {P : Program} (w : World) (base : Nat) (t tx ty e : TypeId) (i : TypeInfo) (z : Value) (size bytes : Nat) (ht : P.underlying t = some (.slice e)) (hi : P.info? e = some i) (hz : i.zero = some z)
  (hsize : i.size = size) (hby : i.bytes = bytes) (hzs : z.cells.size = size) (_hsz : 0 < size)
  (v : Value) (n : Nat) (xs : List Value) (hown : w.ownsRow base e size v n xs) (x : Value) (m : Nat) (news : List Value) (hs : Src P size tx x m news w)
  (h63 : n + m ≤ maxLen) (hbytes : (n + m) * bytes ≤ 140737488355328) (hbase : base ≤ w.heap.size) :
  ∃ v' w', (Builtin.append_ #[t, tx] ty #[v, x]).run P w = .ok v' w' ∧ w'.ownsRow base e size v' (n + m) (xs ++ news) ∧ w.grownBy w' v.ownBlock ∧ (v' = .slice none 0 0 ↔ v = .slice none 0 0 ∧ m = 0) ∧
   (v'.ownBlock = v.ownBlock ∨ v'.ownBlock = some w.heap.size) := by
 subst hsize
 subst hby
 have hsmall : n + m ≤ 9223372036854775807 := by simp only [maxLen] at h63; omega
 have hl := hs.newsLen
 have hlen : (xs ++ news).length = (n + m) * i.size := by rw [List.length_append, hown.1, hl, Nat.add_mul]
 have grown : ∀ (old : Nat), old < n + m → ∀ (row : Option Nat),
   (w.drew.alloc (.cells ((xs ++ news).toArray ++ Builtin.zeroCells z.cells (grownCap w (n + m) old e - (n + m))) e)).ownsRow base e i.size
    (.slice (some ⟨w.heap.size, 0, none⟩) (n + m) (grownCap w (n + m) old e)) (n + m) (xs ++ news) ∧
   w.grownBy (w.drew.alloc (.cells ((xs ++ news).toArray ++ Builtin.zeroCells z.cells (grownCap w (n + m) old e - (n + m))) e)) row := by
  intro old ho row
  have hge := grownCap_ge w (n + m) old e
  have hcm : grownCap w (n + m) old e ≤ maxLen := grownCap_le_maxLen w (n + m) old e h63
  refine ⟨⟨hlen, .inr ⟨w.heap.size, _, _, rfl, hbase, heap_alloc_new w.drew _, hge, hcm, ?_, ?_⟩⟩, ⟨rfl, rfl, rfl, by simp, fun k hk _ => heap_alloc_old w.drew _ hk⟩⟩
  ·simp only [Array.size_append, List.size_toArray, size_zeroCells, hzs, hlen, ← Nat.add_mul]
   congr 1
   omega
  ·simp only [Array.toList_append]
   rw [← hlen]
   exact List.take_left
 rcases hown.2 with ⟨rfl, rfl⟩ | ⟨g, cap, cur, rfl, hbg, hg, hnc, hcm, hcs, htake⟩
 ·have hx : xs = [] := List.eq_nil_of_length_eq_zero (by simpa using hown.1)
  subst hx
  by_cases hm : m = 0
  ·subst hm
   have hn : news = [] := List.eq_nil_of_length_eq_zero (by simpa using hl)
   subst hn
   refine ⟨.slice none 0 0, w, ?_, World.ownsRow_nil w base e i.size, ⟨rfl, rfl, rfl, Nat.le_refl _, fun _ _ _ => rfl⟩, by simp, .inl rfl⟩
   rcases hs.kind with ⟨e', hk⟩ | hk <;> simp [Builtin.append_, run_underlying ht, run_underlying hk, sizeOf, typeInfo, hi, hs.len, hs.cells]
  ·have hr := run_append_grow_src (P := P) w t tx ty e i z ht hi hz none 0 0 [] (run_firstCells_none w.drew i.size 0 0 0) x m news hs (by omega) (by omega) (growslice_fits (by omega) hbytes)
   have hgr := grown 0 (by omega) (Value.ownBlock (.slice none 0 0))
   simp only [Nat.zero_add, List.nil_append] at hgr hr ⊢
   exact ⟨_, _, hr, hgr.1, hgr.2, by simp [hm], .inr rfl⟩
 ·by_cases hroom : n + m ≤ cap
  ·have hfit : n * i.size + news.length ≤ cur.size := by rw [hl, hcs, ← Nat.add_mul]; exact Nat.mul_le_mul_right _ hroom
   have hst := run_storeCells_at P g (n * i.size) e news 0 cur w hg (by simpa using hfit) hs.one
   simp only [Nat.add_zero] at hst
   have hr : (Builtin.append_ #[t, tx] ty #[.slice (some ⟨g, 0, none⟩) n cap, x]).run P w = .ok (.slice (some ⟨g, 0, none⟩) (n + m) cap) (w.setRow g (cur.toList.take (n * i.size) ++ news ++ cur.toList.drop (n * i.size + news.length)).toArray) := by
    rcases hs.kind with ⟨e', hk⟩ | hk <;> simp [Builtin.append_, run_underlying ht, run_underlying hk, sizeOf, typeInfo, hi, hs.len, hroom, hs.cells, Addr.add_lit, hst]
   refine ⟨_, _, hr, ⟨hlen, .inr ⟨g, cap, _, rfl, hbg, setRow_heap w g cur _ e _ hg, hroom, hcm, ?_, ?_⟩⟩, ⟨rfl, rfl, rfl, by simp, fun k _ hk => setRow_other w g k _ (fun e => hk (by simp [Value.ownBlock, e]))⟩, by simp, .inl rfl⟩
   ·simp only [List.size_toArray, List.length_append, List.length_take, List.length_drop, Array.length_toList]
    omega
   ·rw [htake, ← hlen]
    exact List.take_left
  ·have holds : ∀ j u, xs[j]? = some u → w.drew.cell? ((⟨g, 0, none⟩ : Addr).add j) = some u := hown.cells (g := g) rfl
   have hr := run_append_grow_src (P := P) w t tx ty e i z ht hi hz (some ⟨g, 0, none⟩) n cap xs (run_firstCells_some w.drew i.size n ⟨g, 0, none⟩ n cap xs hown.1 holds) x m news hs (by omega) (by omega) (growslice_fits (by omega) hbytes)
   have hgr := grown cap (by omega) (Value.ownBlock (.slice (some ⟨g, 0, none⟩) n cap))
   exact ⟨_, _, hr, hgr.1, hgr.2, by simp, .inr rfl⟩
theorem owns_form {w : World} {base : Nat} {e : TypeId} {size : Nat} {v : Value} {n : Nat} {xs : List Value} (h : w.ownsRow base e size v n xs) : ∃ a c, v = .slice a n c := by
 rcases h.2 with ⟨rfl, rfl⟩ | ⟨g, cap, cur, rfl, _⟩
 ·exact ⟨none, 0, rfl⟩
 ·exact ⟨_, _, rfl⟩
theorem step_append_srcs {P : Program} {ops : Array Oper} {o : Oper} {a : Act} {w : World} {K : Act → World → Prop} {Q : Exit → Act → World → Prop} {E : Prop}
  (hg : o.guard = none) (s x : Operand) (t tx : TypeId) (hop : o.op = Op.call { callee := Callee.builtin Builtin.append, args := #[s, x], argTypes := #[t, tx] })
  (base : Nat) (e : TypeId) (i : TypeInfo) (z : Value) (size bytes : Nat) (ht : P.underlying t = some (.slice e)) (hi : P.info? e = some i) (hz : i.zero = some z)
  (hsize : i.size = size) (hby : i.bytes = bytes) (hzs : z.cells.size = size) (hsz : 0 < size)
  (v : Value) (hv : a.eval s = v) (n : Nat) (xs : List Value) (hown : w.ownsRow base e size v n xs) (y : Value) (hy : a.eval x = y) (m : Nat) (news : List Value) (hs : Src P size tx y m news w)
  (h63 : n + m ≤ maxLen) (hbytes : (n + m) * bytes ≤ 140737488355328) (hbase : base ≤ w.heap.size)
  (hK : ∀ a' c' w', w'.ownsRow base e size (.slice a' (n + m) c') (n + m) (xs ++ news) → w.grownBy w' v.ownBlock → (Value.slice a' (n + m) c' = .slice none 0 0 ↔ v = .slice none 0 0 ∧ m = 0) → ((Value.slice a' (n + m) c').ownBlock = v.ownBlock ∨ (Value.slice a' (n + m) c').ownBlock = some w.heap.size) → K (a.put o.dst (.slice a' (n + m) c')) w') :
  if Region.wanted o (yielded ops a.tmps) = true then Oper.wp P o a w K Q else E := by
 have hw : Region.wanted o (yielded ops a.tmps) = true := by simp [Region.wanted, hg]
 rw [if_pos hw]
 obtain ⟨v', w', hr, h2, h3, h4, h5⟩ := run_append_srcs (P := P) w base t tx o.type e i z size bytes ht hi hz hsize hby hzs hsz v n xs hown y m news hs h63 hbytes hbase
 obtain ⟨a', c', rfl⟩ := owns_form h2
 unfold Oper.wp
 simp [execOp, hop, resolve, invoke, builtin, hv, hy, hr, Result.andThen]
 exact hK a' c' w' h2 h3 h4 h5
theorem wpList_append_srcs {P : Program} {ops : Array Oper} {rest : List Oper} {o : Oper} {a : Act} {w : World} {Q : Exit → Act → World → Prop} (hgd : o.guard = none) (s x : Operand) (t tx : TypeId)
  (ho : o.op = .call { callee := .builtin .append, args := #[s, x], argTypes := #[t, tx] })
  (base : Nat) (e : TypeId) (i : TypeInfo) (z : Value) (size bytes : Nat) (ht : P.underlying t = some (.slice e)) (hi : P.info? e = some i) (hz : i.zero = some z)
  (hsize : i.size = size) (hby : i.bytes = bytes) (hzs : z.cells.size = size) (hsz : 0 < size)
  (v : Value) (hv : a.eval s = v) (n : Nat) (xs : List Value) (hown : w.ownsRow base e size v n xs) (y : Value) (hy : a.eval x = y) (m : Nat) (news : List Value) (hs : Src P size tx y m news w)
  (h63 : n + m ≤ maxLen) (hbytes : (n + m) * bytes ≤ 140737488355328) (hbase : base ≤ w.heap.size)
  (h : ∀ a' c' w', w'.ownsRow base e size (.slice a' (n + m) c') (n + m) (xs ++ news) → w.grownBy w' v.ownBlock → (Value.slice a' (n + m) c' = .slice none 0 0 ↔ v = .slice none 0 0 ∧ m = 0) → ((Value.slice a' (n + m) c').ownBlock = v.ownBlock ∨ (Value.slice a' (n + m) c').ownBlock = some w.heap.size) → wpList P ops Q rest (a.put o.dst (.slice a' (n + m) c')) w') : wpList P ops Q (o :: rest) a w := by
 refine wpList_plain hgd fun K hK => ?_
 obtain ⟨v', w', hr, h2, h3, h4, h5⟩ := run_append_srcs (P := P) w base t tx o.type e i z size bytes ht hi hz hsize hby hzs hsz v n xs hown y m news hs h63 hbytes hbase
 obtain ⟨a', c', rfl⟩ := owns_form h2
 unfold Oper.wp execOp
 simp only [ho, resolve, invoke, builtin, Sem.run_bind, Sem.run_pure, Result.andThen_ok, List.map_toArray, List.map_cons, List.map_nil, hv, hy, hr]
 exact hK _ _ (h a' c' w' h2 h3 h4 h5)
/-! ### Frames: a world that has changed in no old block but those of S -/
structure Ch (S : List Nat) (w w' : World) : Prop where
 os : w'.os = w.os
 tape : w'.tape = w.tape
 output : w'.output = w.output
 size : w.heap.size ≤ w'.heap.size
 block : ∀ k, k < w.heap.size → k ∉ S → w'.heap[k]? = w.heap[k]?
theorem Ch.refl (S : List Nat) (w : World) : Ch S w w := ⟨rfl, rfl, rfl, Nat.le_refl _, fun _ _ _ => rfl⟩
theorem Ch.trans {S T : List Nat} {a b c : World} (h : Ch S a b) (k : Ch T b c) (hT : ∀ x ∈ T, x ∈ S ∨ a.heap.size ≤ x) : Ch S a c :=
 ⟨k.os.trans h.os, k.tape.trans h.tape, k.output.trans h.output, Nat.le_trans h.size k.size, fun i hi hn =>
  (k.block i (Nat.lt_of_lt_of_le hi h.size) (fun ht => (hT i ht).elim hn (fun h1 => by omega))).trans (h.block i hi hn)⟩
theorem Ch.mono {S T : List Nat} {a b : World} (h : Ch S a b) (hs : ∀ x ∈ S, x ∈ T ∨ a.heap.size ≤ x) : Ch T a b :=
 ⟨h.os, h.tape, h.output, h.size, fun k hk hn => h.block k hk (fun hS => (hs k hS).elim hn (fun h1 => by omega))⟩
theorem Ch.alloc {S : List Nat} {a w : World} (h : Ch S a w) (o : Obj) : Ch S a (w.alloc o) :=
 h.trans (T := []) ⟨rfl, rfl, rfl, by simp, fun k hk _ => Below.heap_alloc _ _ _ hk⟩ (by simp)
theorem Ch.drew {S : List Nat} {a w : World} (h : Ch S a w) : Ch S a w.drew := ⟨h.os, h.tape, h.output, h.size, h.block⟩
theorem Ch.setCell {S : List Nat} {a w : World} (h : Ch S a w) {p : Addr} (hp : p.block ∈ S ∨ a.heap.size ≤ p.block) (u : Value) : Ch S a (w.setCell p u) :=
 h.trans (T := [p.block]) ⟨rfl, rfl, rfl, by simp [World.setCell], fun k _ hk => Below.heap_setCell _ _ _ _ (by simpa using hk)⟩ (by simpa using hp)
theorem Ch.grown {S : List Nat} {a w w' : World} {row : Option Nat} (h : Ch S a w) (hg : w.grownBy w' row) (hr : ∀ k, row = some k → k ∈ S ∨ a.heap.size ≤ k) : Ch S a w' :=
 h.trans (T := row.toList) ⟨hg.os, hg.tape, hg.output, hg.size, fun k hk hn => hg.block k hk (fun e => hn (by rw [← e]; simp))⟩ (fun x hx => hr x (by simpa using hx))
theorem Ch.below {a w : World} (h : Ch [] a w) : Below a.heap.size a w := ⟨h.os, h.tape, h.output, h.size, fun k hk => h.block k hk (by simp)⟩
theorem Ch.of_below {a w : World} (h : Below a.heap.size a w) (S : List Nat) : Ch S a w := ⟨h.os, h.tape, h.output, h.size, fun k hk _ => h.block k hk⟩
theorem heap_setCell_here {w : World} {b i : Nat} {c : Array Value} {t : TypeId} {f : Nat × Nat} (v : Value) (h : w.heap[b]? = some (.cells c t f)) : (w.setCell ⟨b, i, none⟩ v).heap[b]? = some (.cells (c.setIfInBounds i v) t f) := by
 simp [World.setCell, Array.getElem?_modify, h]
theorem cell_of_heap {w : World} {b : Nat} {c : Array Value} {t : TypeId} {f : Nat × Nat} (h : w.heap[b]? = some (.cells c t f)) (i : Nat) : w.cell? ⟨b, i, none⟩ = c[i]? := by
 simp [World.cell?, h]
theorem foh {w : World} {b : Nat} {c : Array Value} {t : TypeId} (h : w.heap[b]? = some (.cells c t (0, 0))) (i : Nat) : w.frozen? ⟨b, i, none⟩ = false := by
 simp [World.frozen?, h]
theorem loh {w : World} {b : Nat} {o : Obj} (h : w.heap[b]? = some o) : b < w.heap.size := by
 rcases Nat.lt_or_ge b w.heap.size with hl | hl
 ·exact hl
 ·rw [Array.getElem?_eq_none hl] at h; cases h
theorem ownsRow_keep {w w' : World} {base : Nat} {e : TypeId} {size : Nat} {v : Value} {n : Nat} {xs : List Value} (h : w.ownsRow base e size v n xs) (hk : ∀ g, v.ownBlock = some g → w'.heap[g]? = w.heap[g]?) : w'.ownsRow base e size v n xs := by
 obtain ⟨h1, h2⟩ := h
 refine ⟨h1, ?_⟩
 rcases h2 with h2 | ⟨g, cap, cur, rfl, h3⟩
 ·exact .inl h2
 ·exact .inr ⟨g, cap, cur, rfl, h3.1, by rw [hk g rfl]; exact h3.2.1, h3.2.2⟩
theorem Rd.of_owns {w : World} {base : Nat} {e : TypeId} {v : Value} {n : Nat} {xs : List Value} (h : w.ownsRow base e 1 v n xs) : Rd w v xs := by
 obtain ⟨h1, h2⟩ := h
 rw [Nat.mul_one] at h1
 rcases h2 with ⟨rfl, rfl⟩ | ⟨g, cap, cur, rfl, _, hg, hn, _, hc, ht⟩
 ·obtain rfl : xs = [] := List.eq_nil_of_length_eq_zero h1
  exact Rd.nil w
 ·subst h1
  refine ⟨some ⟨g, 0, none⟩, cap, rfl, hn, fun h => (Option.some_ne_none _ h).elim, fun ad e => ?_⟩
  obtain rfl := Option.some.inj e
  intro j u hj
  rw [Addr.add_lit, Nat.zero_add, cell_of_heap hg]
  rw [Nat.mul_one] at ht
  rw [← ht, List.getElem?_take] at hj
  split at hj
  ·simpa using hj
  ·cases hj
theorem owns_cap {w : World} {base : Nat} {e : TypeId} {size : Nat} {a : Option Addr} {l c n : Nat} {xs : List Value} (h : w.ownsRow base e size (.slice a l c) n xs) : n ≤ c ∧ c ≤ maxLen := by
 rcases h.2 with ⟨e, rfl⟩ | ⟨g, cap, cur, e, _, _, h1, h2, _⟩
 ·exact ⟨Nat.zero_le _, by have := Value.slice.inj e; rw [this.2.2]; exact Nat.zero_le _⟩
 ·have := Value.slice.inj e
  rw [this.2.2]; exact ⟨h1, h2⟩
theorem owns_ge {w : World} {base : Nat} {e : TypeId} {size : Nat} {v : Value} {n : Nat} {xs : List Value} (h : w.ownsRow base e size v n xs) (g : Nat) (hg : v.ownBlock = some g) : base ≤ g := by
 rcases h.2 with ⟨rfl, _⟩ | ⟨g', cap, cur, rfl, hb, _⟩
 ·cases hg
 ·obtain rfl := Option.some.inj hg; exact hb
theorem owns_lt {w : World} {base : Nat} {e : TypeId} {size : Nat} {v : Value} {n : Nat} {xs : List Value} (h : w.ownsRow base e size v n xs) (g : Nat) (hg : v.ownBlock = some g) : g < w.heap.size := by
 rcases h.2 with ⟨rfl, _⟩ | ⟨g', cap, cur, rfl, _, hh, _⟩
 ·cases hg
 ·obtain rfl : g' = g := by simpa [Value.ownBlock] using hg
  exact loh hh
def bytesV (l : List UInt8) : List Value := l.map fun c => Value.int .u8 (c.toNat : Int)
theorem bytesV_length (l : List UInt8) : (bytesV l).length = l.length := by simp [bytesV]
theorem bytesV_take (l : List UInt8) (k : Nat) : bytesV (l.take k) = (bytesV l).take k := by simp [bytesV, List.map_take]
structure Only (R : Nat) (w W : World) : Prop where
 os : W.os = w.os
 tape : W.tape = w.tape
 output : W.output = w.output
 size : W.heap.size = w.heap.size
 block : ∀ k, k ≠ R → W.heap[k]? = w.heap[k]?
theorem Only.refl (R : Nat) (w : World) : Only R w w := ⟨rfl, rfl, rfl, rfl, fun _ _ => rfl⟩
theorem Only.setCell {R : Nat} {w W : World} (h : Only R w W) {i : Nat} {v : Value} : Only R w (W.setCell ⟨R, i, none⟩ v) :=
 ⟨h.os, h.tape, h.output, by rw [← h.size]; simp [World.setCell], fun k hk => (Below.heap_setCell _ _ _ _ hk).trans (h.block k hk)⟩
theorem Only.drew {R : Nat} {w W : World} (h : Only R w W) : Only R w W.drew := ⟨h.os, h.tape, h.output, h.size, h.block⟩
theorem Only.ch {R : Nat} {S : List Nat} {a w W : World} (h : Ch S a w) (k : Only R w W) (hR : R ∈ S ∨ a.heap.size ≤ R) : Ch S a W :=
 h.trans (T := [R]) ⟨k.os, k.tape, k.output, by rw [k.size]; exact Nat.le_refl _, fun i _ hi => k.block i (by simpa using hi)⟩ (by simpa using hR)
theorem Rd.take {w : World} {a : Option Addr} {l c : Nat} {b : List UInt8} (h : Rd w (.slice a l c) (bytesV b)) (n : Nat) (hn : n ≤ b.length) : Rd w (.slice a n c) (bytesV (b.take n)) := by
 obtain ⟨a', cap, e, h1, h2, h3⟩ := h
 obtain ⟨rfl, rfl, rfl⟩ := Value.slice.inj e
 rw [bytesV_length] at h1
 refine ⟨a, c, ?_, ?_, h2, fun ad e j u hj => h3 ad e j u ?_⟩
 ·rw [bytesV_length, List.length_take, Nat.min_eq_left hn]
 ·rw [bytesV_length, List.length_take]; omega
 ·rw [bytesV_take, List.getElem?_take] at hj
  split at hj
  ·exact hj
  ·cases hj
universe u
theorem hdL {p : Prop} (h : p) : Hid p := Lib.hid h
theorem sqA {α : Type} {l : List α} {i : Nat} {a : α} : l.toArray.setIfInBounds i a = (l.set i a).toArray := List.setIfInBounds_toArray ..
theorem sqB {α : Type} {x : α} {xs : List α} {a : α} : (x :: xs).set 0 a = a :: xs := rfl
theorem sqC {α : Type} {x : α} {xs : List α} {n : Nat} {a : α} : (x :: xs).set (n + 1) a = x :: xs.set n a := rfl
theorem sqD {α : Type} {xs : List α} {i : Nat} (h : i < xs.toArray.size) : xs.toArray[i] = xs[i]'(by simpa using h) := rfl
theorem sqE {α : Type} {a : α} {xs : List α} (h : 0 < (a :: xs).length) : (a :: xs)[0] = a := rfl
theorem sqF {α : Type} {a : α} {xs : List α} {i : Nat} (h : i + 1 < (a :: xs).length) : (a :: xs)[i + 1] = xs[i]'(by simpa using h) := rfl
theorem sqG : (∀ {α : Type} (xs : List α) (i : Nat) (h : i < xs.toArray.size), xs.toArray[i] = xs[i]'(by simpa using h)) ∧ (∀ {α : Type} (a : α) (xs : List α) (h : 0 < (a :: xs).length), (a :: xs)[0] = a) ∧ ∀ {α : Type} (a : α) (xs : List α) (i : Nat) (h : i + 1 < (a :: xs).length), (a :: xs)[i + 1] = xs[i]'(by simpa using h) :=
 ⟨fun _ _ _ => rfl, fun _ _ _ => rfl, fun _ _ _ _ => rfl⟩
theorem sqZ : (∀ {α : Type} (l : List α) (i : Nat) (a : α), l.toArray.setIfInBounds i a = (l.set i a).toArray) ∧ (∀ {α : Type} (x a : α) (xs : List α), (x :: xs).set 0 a = a :: xs) ∧ (∀ {α : Type} (x a : α) (xs : List α) (n : Nat), (x :: xs).set (n + 1) a = x :: xs.set n a) ∧ (∀ {α : Type} (xs : List α) (i : Nat) (h : i < xs.toArray.size), xs.toArray[i] = xs[i]'(by simpa using h)) ∧ (∀ {α : Type} (a : α) (xs : List α) (h : 0 < (a :: xs).length), (a :: xs)[0] = a) ∧ ∀ {α : Type} (a : α) (xs : List α) (i : Nat) (h : i + 1 < (a :: xs).length), (a :: xs)[i + 1] = xs[i]'(by simpa using h) :=
 ⟨fun _ _ _ => List.setIfInBounds_toArray .., fun _ _ _ => rfl, fun _ _ _ _ => rfl, sqG⟩
theorem gEs {α : Type u} {l : List α} {i : Nat} {a : α} : l[i]? = some a ↔ ∃ h : i < l.length, l[i] = a := List.getElem?_eq_some_iff
theorem mSg {α : Type u} {a b : α} : a ∈ [b] ↔ a = b := List.mem_singleton
theorem mCm {α : Type u} (y : α) {a : α} {l : List α} (h : a ∈ l) : a ∈ y :: l := List.mem_cons_of_mem y h
theorem mCs {α : Type u} {a : α} {l : List α} : a ∈ a :: l := List.mem_cons_self ..
theorem gEg {α : Type u} {l : List α} {i : Nat} (h : i < l.length) : l[i]? = some l[i] := List.getElem?_eq_getElem h
theorem eN0 {α : Type u} {l : List α} (h : l.length = 0) : l = [] := List.eq_nil_of_length_eq_zero h
theorem sIj {α : Type u} {a b : α} (h : some a = some b) : a = b := Option.some.inj h
theorem bHs (w : World) (p : Addr) (x : Value) (j : Nat) (h : j ≠ p.block) : (w.setCell p x).heap[j]? = w.heap[j]? := Below.heap_setCell w p x j h
theorem lAp {α : Type u} {xs ys : List α} : (xs ++ ys).length = xs.length + ys.length := List.length_append
theorem lSg {α : Type u} {a : α} : [a].length = 1 := List.length_singleton
theorem tLe {α : Type u} {l : List α} {i : Nat} (h : l.length ≤ i) : l.take i = l := List.take_of_length_le h
theorem cOh {w : World} {b : Nat} {cs : Array Value} {t : TypeId} {f : Nat × Nat} (h : w.heap[b]? = some (.cells cs t f)) (i : Nat) : w.cell? ⟨b, i, none⟩ = cs[i]? := cell_of_heap h i
theorem cells2 {w : World} {b : Nat} {c : Array Value} {t : TypeId} {f : Nat × Nat} (h : w.heap[b]? = some (.cells c t f)) : w.cell? ⟨b, 0, none⟩ = c[0]? ∧ w.cell? ⟨b, 1, none⟩ = c[1]? := ⟨cell_of_heap h 0, cell_of_heap h 1⟩
theorem cells3 {w : World} {b : Nat} {c : Array Value} {t : TypeId} {f : Nat × Nat} (h : w.heap[b]? = some (.cells c t f)) : w.cell? ⟨b, 0, none⟩ = c[0]? ∧ w.cell? ⟨b, 1, none⟩ = c[1]? ∧ w.cell? ⟨b, 2, none⟩ = c[2]? := ⟨cell_of_heap h 0, cell_of_heap h 1, cell_of_heap h 2⟩
theorem cells4 {w : World} {b : Nat} {c : Array Value} {t : TypeId} {f : Nat × Nat} (h : w.heap[b]? = some (.cells c t f)) : w.cell? ⟨b, 0, none⟩ = c[0]? ∧ w.cell? ⟨b, 1, none⟩ = c[1]? ∧ w.cell? ⟨b, 2, none⟩ = c[2]? ∧ w.cell? ⟨b, 3, none⟩ = c[3]? := ⟨cell_of_heap h 0, cell_of_heap h 1, cell_of_heap h 2, cell_of_heap h 3⟩
theorem cells5 {w : World} {b : Nat} {c : Array Value} {t : TypeId} {f : Nat × Nat} (h : w.heap[b]? = some (.cells c t f)) : w.cell? ⟨b, 0, none⟩ = c[0]? ∧ w.cell? ⟨b, 1, none⟩ = c[1]? ∧ w.cell? ⟨b, 2, none⟩ = c[2]? ∧ w.cell? ⟨b, 3, none⟩ = c[3]? ∧ w.cell? ⟨b, 4, none⟩ = c[4]? := ⟨cell_of_heap h 0, cell_of_heap h 1, cell_of_heap h 2, cell_of_heap h 3, cell_of_heap h 4⟩
theorem cells6 {w : World} {b : Nat} {c : Array Value} {t : TypeId} {f : Nat × Nat} (h : w.heap[b]? = some (.cells c t f)) : w.cell? ⟨b, 0, none⟩ = c[0]? ∧ w.cell? ⟨b, 1, none⟩ = c[1]? ∧ w.cell? ⟨b, 2, none⟩ = c[2]? ∧ w.cell? ⟨b, 3, none⟩ = c[3]? ∧ w.cell? ⟨b, 4, none⟩ = c[4]? ∧ w.cell? ⟨b, 5, none⟩ = c[5]? := ⟨cell_of_heap h 0, cell_of_heap h 1, cell_of_heap h 2, cell_of_heap h 3, cell_of_heap h 4, cell_of_heap h 5⟩
theorem cells7 {w : World} {b : Nat} {c : Array Value} {t : TypeId} {f : Nat × Nat} (h : w.heap[b]? = some (.cells c t f)) : w.cell? ⟨b, 0, none⟩ = c[0]? ∧ w.cell? ⟨b, 1, none⟩ = c[1]? ∧ w.cell? ⟨b, 2, none⟩ = c[2]? ∧ w.cell? ⟨b, 3, none⟩ = c[3]? ∧ w.cell? ⟨b, 4, none⟩ = c[4]? ∧ w.cell? ⟨b, 5, none⟩ = c[5]? ∧ w.cell? ⟨b, 6, none⟩ = c[6]? := ⟨cell_of_heap h 0, cell_of_heap h 1, cell_of_heap h 2, cell_of_heap h 3, cell_of_heap h 4, cell_of_heap h 5, cell_of_heap h 6⟩
theorem cells8 {w : World} {b : Nat} {c : Array Value} {t : TypeId} {f : Nat × Nat} (h : w.heap[b]? = some (.cells c t f)) : w.cell? ⟨b, 0, none⟩ = c[0]? ∧ w.cell? ⟨b, 1, none⟩ = c[1]? ∧ w.cell? ⟨b, 2, none⟩ = c[2]? ∧ w.cell? ⟨b, 3, none⟩ = c[3]? ∧ w.cell? ⟨b, 4, none⟩ = c[4]? ∧ w.cell? ⟨b, 5, none⟩ = c[5]? ∧ w.cell? ⟨b, 6, none⟩ = c[6]? ∧ w.cell? ⟨b, 7, none⟩ = c[7]? := ⟨cell_of_heap h 0, cell_of_heap h 1, cell_of_heap h 2, cell_of_heap h 3, cell_of_heap h 4, cell_of_heap h 5, cell_of_heap h 6, cell_of_heap h 7⟩
theorem cells9 {w : World} {b : Nat} {c : Array Value} {t : TypeId} {f : Nat × Nat} (h : w.heap[b]? = some (.cells c t f)) : w.cell? ⟨b, 0, none⟩ = c[0]? ∧ w.cell? ⟨b, 1, none⟩ = c[1]? ∧ w.cell? ⟨b, 2, none⟩ = c[2]? ∧ w.cell? ⟨b, 3, none⟩ = c[3]? ∧ w.cell? ⟨b, 4, none⟩ = c[4]? ∧ w.cell? ⟨b, 5, none⟩ = c[5]? ∧ w.cell? ⟨b, 6, none⟩ = c[6]? ∧ w.cell? ⟨b, 7, none⟩ = c[7]? ∧ w.cell? ⟨b, 8, none⟩ = c[8]? := ⟨cell_of_heap h 0, cell_of_heap h 1, cell_of_heap h 2, cell_of_heap h 3, cell_of_heap h 4, cell_of_heap h 5, cell_of_heap h 6, cell_of_heap h 7, cell_of_heap h 8⟩
theorem cells10 {w : World} {b : Nat} {c : Array Value} {t : TypeId} {f : Nat × Nat} (h : w.heap[b]? = some (.cells c t f)) : w.cell? ⟨b, 0, none⟩ = c[0]? ∧ w.cell? ⟨b, 1, none⟩ = c[1]? ∧ w.cell? ⟨b, 2, none⟩ = c[2]? ∧ w.cell? ⟨b, 3, none⟩ = c[3]? ∧ w.cell? ⟨b, 4, none⟩ = c[4]? ∧ w.cell? ⟨b, 5, none⟩ = c[5]? ∧ w.cell? ⟨b, 6, none⟩ = c[6]? ∧ w.cell? ⟨b, 7, none⟩ = c[7]? ∧ w.cell? ⟨b, 8, none⟩ = c[8]? ∧ w.cell? ⟨b, 9, none⟩ = c[9]? := ⟨cell_of_heap h 0, cell_of_heap h 1, cell_of_heap h 2, cell_of_heap h 3, cell_of_heap h 4, cell_of_heap h 5, cell_of_heap h 6, cell_of_heap h 7, cell_of_heap h 8, cell_of_heap h 9⟩
open Go.RowKit Go.ChangeShapes Go.WideShapes
set_option linter.unusedVariables false
theorem Below.drewN {n : Nat} {w w' : World} (h : Below n w w') (k : Nat) : Below n w (w'.drewN k) := ⟨h.os, h.tape, h.output, h.size, h.block⟩
theorem boC {S : List Nat} {B : Nat} {w w' : World} (h : Ch S w w') (hS : ∀ k ∈ S, B ≤ k) (hB : B ≤ w.heap.size) : Below B w w' :=
 ⟨h.os, h.tape, h.output, h.size, fun k hk => h.block k (by omega) (fun hs => by have := hS k hs; omega)⟩
theorem cell_spot {w : World} {a : Addr} {v : Value} (h : w.cell? a = some v) : a.spot = none := by
 unfold World.cell? at h
 split at h
 ·split at h
  ·cases h
  ·rename_i hs; simpa using hs
 ·cases h
theorem str_size (a : List UInt8) : (⟨a.toArray⟩ : ByteArray).size = a.length := by
 show a.toArray.size = a.length
 simp
def strV (l : List UInt8) : Value := .string ⟨l.toArray⟩
def strsV (ls : List (List UInt8)) : List Value := ls.map strV
theorem strsV_length (ls : List (List UInt8)) : (strsV ls).length = ls.length := by simp [strsV]
theorem strV_inj {a b : List UInt8} : strV a = strV b ↔ a = b := by simp [strV]
def RdStrs (w : World) (a : Option Addr) (ls : List (List UInt8)) : Prop :=
 ls ≠ [] → ∃ b o, a = some ⟨b, o, none⟩ ∧ ∀ i l, ls[i]? = some l → w.cell? ⟨b, o + i, none⟩ = some (.string ⟨l.toArray⟩)
theorem RdStrs.below {w w' : World} {a : Option Addr} {ls : List (List UInt8)} (h : RdStrs w a ls) (hb : Below w.heap.size w w') : RdStrs w' a ls := by
 intro hne
 obtain ⟨b, o, h1, h2⟩ := h hne
 exact ⟨b, o, h1, fun i l hi => bkp hb _ _ (h2 i l hi)⟩
theorem RdStrs.of_owns {w : World} {base n c : Nat} {a : Option Addr} {e : TypeId} {ls : List (List UInt8)} (h : w.ownsRow base e 1 (.slice a n c) n (strsV ls)) : RdStrs w a ls := by
 intro hne
 rcases h.2 with ⟨e1, e2⟩ | ⟨g, cap, cur, e1, _, hg, _, _, _, ht⟩
 ·have h1 := h.1
  rw [e2, strsV_length] at h1
  exact absurd (eN0 (by omega)) hne
 ·obtain ⟨rfl, _, _⟩ := Value.slice.inj e1
  refine ⟨g, 0, rfl, fun i l hi => ?_⟩
  rw [cOh hg]
  have hj : (strsV ls)[i]? = some (strV l) := by simp [strsV, hi]
  rw [Nat.mul_one] at ht
  rw [← ht, List.getElem?_take] at hj
  split at hj
  ·rw [Nat.zero_add, ← Array.getElem?_toList]; exact hj
  ·cases hj
open Go
theorem less_irrefl : ∀ a : List UInt8, Op.bytesLess a a = false
 | [] => rfl
 | x :: a => by simp [Op.bytesLess, less_irrefl a, UInt8.lt_irrefl]
theorem less_trans : ∀ a b c : List UInt8, Op.bytesLess a b = true → Op.bytesLess b c = true → Op.bytesLess a c = true
 | _, _, [], _, h => by simp [Op.bytesLess] at h
 | _, [], _ :: _, h, _ => by simp [Op.bytesLess] at h
 | [], _ :: _, _ :: _, _, _ => by simp [Op.bytesLess]
 | x :: a, y :: b, z :: c, h1, h2 => by
  simp only [Op.bytesLess, Bool.or_eq_true, Bool.and_eq_true, decide_eq_true_eq, beq_iff_eq] at h1 h2 ⊢
  rcases h1 with h1 | ⟨rfl, h1⟩
  ·rcases h2 with h2 | ⟨rfl, _⟩
   ·exact .inl (UInt8.lt_trans h1 h2)
   ·exact .inl h1
  ·rcases h2 with h2 | ⟨rfl, h2⟩
   ·exact .inl h2
   ·exact .inr ⟨rfl, less_trans a b c h1 h2⟩
theorem less_total : ∀ a b : List UInt8, Op.bytesLess a b = false → Op.bytesLess b a = false → a = b
 | [], [], _, _ => rfl
 | [], _ :: _, h, _ => by simp [Op.bytesLess] at h
 | _ :: _, [], _, h => by simp [Op.bytesLess] at h
 | x :: a, y :: b, h1, h2 => by
  simp only [Op.bytesLess, Bool.or_eq_false_iff, Bool.and_eq_false_iff, decide_eq_false_iff_not, beq_eq_false_iff_ne] at h1 h2
  obtain rfl : x = y := by
   rcases UInt8.lt_or_le x y with h | h
   ·exact absurd h h1.1
   ·rcases UInt8.lt_or_eq_of_le h with h | h
    ·exact absurd h h2.1
    ·exact h.symm
  rw [less_total a b (h1.2.resolve_left (fun h => h rfl)) (h2.2.resolve_left (fun h => h rfl))]
theorem less_ne {a b : List UInt8} (h : Op.bytesLess a b = true) : a ≠ b := by
 rintro rfl
 rw [less_irrefl] at h
 cases h
abbrev Pr := List UInt8 × List UInt8
def Srt (ps : List Pr) : Prop := ps.Pairwise (fun a b => Op.bytesLess a.1 b.1 = true)
structure Pos (ps : List Pr) (k : List UInt8) (i : Nat) : Prop where
 le : i ≤ ps.length
 low : ∀ t p, t < i → ps[t]? = some p → Op.bytesLess p.1 k = true
 high : ∀ t p, i ≤ t → ps[t]? = some p → Op.bytesLess p.1 k = false
theorem Srt.lt {ps : List Pr} (h : Srt ps) {i j : Nat} {p q : Pr} (hij : i < j) (hi : ps[i]? = some p) (hj : ps[j]? = some q) : Op.bytesLess p.1 q.1 = true := by
 obtain ⟨h1, rfl⟩ := gEs.1 hi
 obtain ⟨h2, rfl⟩ := gEs.1 hj
 exact List.pairwise_iff_getElem.1 h i j h1 h2 hij
theorem Srt.inj {ps : List Pr} (h : Srt ps) {p q : Pr} (hp : p ∈ ps) (hq : q ∈ ps) (e : p.1 = q.1) : p = q := by
 obtain ⟨i, hi⟩ := List.mem_iff_getElem?.1 hp
 obtain ⟨j, hj⟩ := List.mem_iff_getElem?.1 hq
 rcases Nat.lt_trichotomy i j with hl | rfl | hl
 ·exact absurd e (less_ne (h.lt hl hi hj))
 ·rw [hi] at hj; exact sIj hj
 ·exact absurd e.symm (less_ne (h.lt hl hj hi))
theorem Pos.at {ps : List Pr} {k : List UInt8} {i : Nat} (h : Pos ps k i) (hs : Srt ps) {v : List UInt8} (hm : (k, v) ∈ ps) : ps[i]? = some (k, v) := by
 obtain ⟨j, hj⟩ := List.mem_iff_getElem?.1 hm
 rcases Nat.lt_trichotomy i j with hl | rfl | hl
 ·have hi : i < ps.length := by have := (gEs.1 hj).1; omega
  have h1 := gEg hi
  have h2 := h.high i _ (Nat.le_refl _) h1
  rw [hs.lt hl h1 hj] at h2
  cases h2
 ·exact hj
 ·have h2 := h.low j _ hl hj
  rw [less_irrefl] at h2
  cases h2
def insAt (ps : List Pr) (i : Nat) (p : Pr) : List Pr := ps.take i ++ p :: ps.drop i
theorem Pos.srt {ps : List Pr} {k v : List UInt8} {i : Nat} (h : Pos ps k i) (hs : Srt ps) (hm : ∀ v, (k, v) ∉ ps) : Srt (insAt ps i (k, v)) := by
 unfold insAt Srt
 have hsp : Srt (ps.take i ++ ps.drop i) := by rw [List.take_append_drop]; exact hs
 obtain ⟨h1, h2, h3⟩ := List.pairwise_append.1 hsp
 refine List.pairwise_append.2 ⟨h1, List.pairwise_cons.2 ⟨?_, h2⟩, ?_⟩
 ·intro q hq
  obtain ⟨j, hj⟩ := List.mem_iff_getElem?.1 hq
  rw [List.getElem?_drop] at hj
  cases hb : Op.bytesLess k q.1
  ·have := less_total _ _ (h.high (i + j) q (by omega) hj) hb
   exact absurd (by rw [← this]; exact List.mem_of_getElem? hj) (hm q.2)
  ·rfl
 ·intro p hp q hq
  rcases List.mem_cons.1 hq with rfl | hq
  ·obtain ⟨j, hj⟩ := List.mem_iff_getElem?.1 hp
   rw [List.getElem?_take] at hj
   split at hj
   ·exact h.low j p (by assumption) hj
   ·cases hj
  ·exact h3 p hp q hq
theorem run_copy_rowN {P : Program} (w : World) (dT sT ty elem : TypeId) (sz : Nat) (g o dLen dCap : Nat) (a : Addr) (sLen sCap : Nat) (cur : Array Value) (t : TypeId) (cs : List Value) (k : Nat)
  (hu : P.underlying dT = some (.slice elem)) (hs : (P.info? elem).map (·.size) = some sz)
  (hg : w.heap[g]? = some (.cells cur t (0, 0))) (hk : Nat.min sLen dLen = k) (hn : cs.length = k * sz)
  (hsrc : ∀ j v, cs[j]? = some v → w.cell? (a.add j) = some v) (hfit : o + cs.length ≤ cur.size) (h1 : ∀ v ∈ cs, v.oneCell' = true) :
  (Builtin.copy_ #[dT, sT] ty #[.slice (some ⟨g, o, none⟩) dLen dCap, .slice (some a) sLen sCap]).run P w =
   .ok (goInt k) (w.setRow g (cur.toList.take o ++ cs ++ cur.toList.drop (o + cs.length)).toArray) := by
 have hl := run_loadCells_list (P := P) w a cs hsrc
 have hst := run_storeCells_at P g o t cs 0 cur w hg (by simpa using hfit) h1
 rw [hn] at hl
 cases hq : P.info? elem with
 | none => simp [hq] at hs
 | some i =>
  have hi : i.size = sz := by simpa [hq] using hs
  simp [Builtin.copy_, run_underlying hu, Builtin.lenOf, Builtin.firstCells, sizeOf, typeInfo, hq, hi, hk, hl, hst]
theorem ins_shift {α : Type} (cur : List α) (xs p : List α) (i n sz : Nat) (hx : cur.take (n * sz) = xs) (hxl : xs.length = n * sz) (hp : p.length = sz) (hi : i ≤ n) (hc : (n + 1) * sz ≤ cur.length) :
  let cur1 := cur.take ((i + 1) * sz) ++ xs.drop (i * sz) ++ cur.drop ((i + 1) * sz + (xs.drop (i * sz)).length)
  let cur2 := cur1.take (i * sz) ++ p ++ cur1.drop (i * sz + p.length)
  cur2.take ((n + 1) * sz) = xs.take (i * sz) ++ p ++ xs.drop (i * sz) ∧ cur1.length = cur.length ∧ cur2.length = cur.length := by
 intro cur1 cur2
 have h1 : i * sz ≤ n * sz := Nat.mul_le_mul_right _ hi
 have h2 : (i + 1) * sz = i * sz + sz := by rw [Nat.add_mul, Nat.one_mul]
 have h3 : (n + 1) * sz = n * sz + sz := by rw [Nat.add_mul, Nat.one_mul]
 have hd : (xs.drop (i * sz)).length = n * sz - i * sz := by rw [List.length_drop, hxl]
 have l1 : cur1.length = cur.length := by
  simp only [cur1, lAp, List.length_take, List.length_drop, hd]
  omega
 have t1 : cur1.take (i * sz) = xs.take (i * sz) := by
  simp only [cur1]
  rw [List.append_assoc, List.take_append_of_le_length (by rw [List.length_take]; omega), List.take_take, Nat.min_eq_left (by omega), ← hx, List.take_take, Nat.min_eq_left h1]
 have d1 : cur1.drop (i * sz + p.length) = xs.drop (i * sz) ++ cur.drop ((i + 1) * sz + (xs.drop (i * sz)).length) := by
  simp only [cur1]
  rw [List.append_assoc, hp, ← h2, List.drop_append, List.drop_eq_nil_of_le (by rw [List.length_take]; omega), List.nil_append, List.length_take, show (i + 1) * sz - min ((i + 1) * sz) cur.length = 0 from by omega, List.drop_zero]
 refine ⟨?_, l1, ?_⟩
 ·simp only [cur2]
  rw [t1, d1, ← List.append_assoc, List.take_append_of_le_length (by simp only [lAp, List.length_take, hd, hp, hxl]; omega)]
  exact tLe (by simp only [lAp, List.length_take, hd, hp, hxl]; omega)
 ·simp only [cur2]
  simp only [lAp, List.length_take, List.length_drop, l1, hp]
  omega
theorem ins_grow {α : Type} (z r xs p : List α) (i n sz : Nat) (hxl : xs.length = n * sz) (hp : p.length = sz) (hi : i ≤ n) (hz : z.length = (n + 1 - i) * sz) :
  let row := xs.take (i * sz) ++ z ++ r
  let row1 := row.take (i * sz) ++ p ++ row.drop (i * sz + p.length)
  let row2 := row1.take ((i + 1) * sz) ++ xs.drop (i * sz) ++ row1.drop ((i + 1) * sz + (xs.drop (i * sz)).length)
  row2.take ((n + 1) * sz) = xs.take (i * sz) ++ p ++ xs.drop (i * sz) ∧ row1.length = row.length ∧ row2.length = row.length ∧ row.length = (n + 1) * sz + r.length := by
 intro row row1 row2
 have h1 : i * sz ≤ n * sz := Nat.mul_le_mul_right _ hi
 have h2 : (i + 1) * sz = i * sz + sz := by rw [Nat.add_mul, Nat.one_mul]
 have h3 : (n + 1) * sz = n * sz + sz := by rw [Nat.add_mul, Nat.one_mul]
 have h4 : (n + 1 - i) * sz = n * sz + sz - i * sz := by rw [Nat.sub_mul, h3]
 have hd : (xs.drop (i * sz)).length = n * sz - i * sz := by rw [List.length_drop, hxl]
 have lr : row.length = (n + 1) * sz + r.length := by
  simp only [row, lAp, List.length_take, hz, hxl]; omega
 have l1 : row1.length = row.length := by
  simp only [row1, lAp, List.length_take, List.length_drop, hp, lr]; omega
 have t0 : row.take (i * sz) = xs.take (i * sz) := by
  simp only [row]
  rw [List.append_assoc, List.take_append_of_le_length (by rw [List.length_take]; omega), List.take_take, Nat.min_self]
 have t1 : row1.take ((i + 1) * sz) = xs.take (i * sz) ++ p := by
  simp only [row1]
  rw [t0, List.take_append_of_le_length (by simp only [lAp, List.length_take, hp]; omega)]
  exact tLe (by simp only [lAp, List.length_take, hp]; omega)
 refine ⟨?_, l1, ?_, lr⟩
 ·simp only [row2]
  rw [t1, List.take_append_of_le_length (by simp only [lAp, List.length_take, hd, hp, hxl]; omega)]
  exact tLe (by simp only [lAp, List.length_take, hd, hp, hxl]; omega)
 ·simp only [row2, lAp, List.length_take, List.length_drop, l1, lr, hd]
  omega
structure Ky (α : Type) where
 lt : α → α → Bool
 enc : α → Value
 one : ∀ a, (enc a).oneCell' = true
 irr : ∀ a, lt a a = false
 trans : ∀ a b c, lt a b = true → lt b c = true → lt a c = true
 tot : ∀ a b, lt a b = false → lt b a = false → a = b
def kStr : Ky (List UInt8) := ⟨Op.bytesLess, strV, fun _ => rfl, less_irrefl, less_trans, less_total⟩
def kInt : Ky Int := ⟨fun a b => decide (a < b), fun n => .int .i64 n, fun _ => rfl, fun a => by simp, fun a b c h1 h2 => by simp at h1 h2 ⊢; omega, fun a b h1 h2 => by simp at h1 h2; omega⟩
section
variable {α : Type}
theorem Ky.ne (K : Ky α) {a b : α} (h : K.lt a b = true) : a ≠ b := by
 rintro rfl
 rw [K.irr] at h
 cases h
abbrev KV (α : Type) := α × List Value
def SrtK (K : Ky α) (ps : List (KV α)) : Prop := ps.Pairwise (fun a b => K.lt a.1 b.1 = true)
structure PosK (K : Ky α) (ps : List (KV α)) (k : α) (i : Nat) : Prop where
 le : i ≤ ps.length
 low : ∀ t p, t < i → ps[t]? = some p → K.lt p.1 k = true
 high : ∀ t p, i ≤ t → ps[t]? = some p → K.lt p.1 k = false
theorem SrtK.lt {K : Ky α} {ps : List (KV α)} (h : SrtK K ps) {i j : Nat} {p q : KV α} (hij : i < j) (hi : ps[i]? = some p) (hj : ps[j]? = some q) : K.lt p.1 q.1 = true := by
 obtain ⟨h1, rfl⟩ := gEs.1 hi
 obtain ⟨h2, rfl⟩ := gEs.1 hj
 exact List.pairwise_iff_getElem.1 h i j h1 h2 hij
theorem SrtK.inj {K : Ky α} {ps : List (KV α)} (h : SrtK K ps) {p q : KV α} (hp : p ∈ ps) (hq : q ∈ ps) (e : p.1 = q.1) : p = q := by
 obtain ⟨i, hi⟩ := List.mem_iff_getElem?.1 hp
 obtain ⟨j, hj⟩ := List.mem_iff_getElem?.1 hq
 rcases Nat.lt_trichotomy i j with hl | rfl | hl
 ·exact absurd e (K.ne (h.lt hl hi hj))
 ·rw [hi] at hj; exact sIj hj
 ·exact absurd e.symm (K.ne (h.lt hl hj hi))
theorem PosK.at {K : Ky α} {ps : List (KV α)} {k : α} {i : Nat} (h : PosK K ps k i) (hs : SrtK K ps) {v : List Value} (hm : (k, v) ∈ ps) : ps[i]? = some (k, v) := by
 obtain ⟨j, hj⟩ := List.mem_iff_getElem?.1 hm
 rcases Nat.lt_trichotomy i j with hl | rfl | hl
 ·have hi : i < ps.length := by have := (gEs.1 hj).1; omega
  have h1 := gEg hi
  have h2 := h.high i _ (Nat.le_refl _) h1
  rw [hs.lt hl h1 hj] at h2
  cases h2
 ·exact hj
 ·have h2 := h.low j _ hl hj
  rw [K.irr] at h2
  cases h2
def insK (ps : List (KV α)) (i : Nat) (p : KV α) : List (KV α) := ps.take i ++ p :: ps.drop i
theorem insK_length (ps : List (KV α)) (i : Nat) (p : KV α) (h : i ≤ ps.length) : (insK ps i p).length = ps.length + 1 := by
 simp [insK]; omega
theorem mem_insK {ps : List (KV α)} {i : Nat} {p q : KV α} : q ∈ insK ps i p ↔ q = p ∨ q ∈ ps := by
 have : q ∈ ps ↔ q ∈ ps.take i ∨ q ∈ ps.drop i := by rw [← List.mem_append, List.take_append_drop]
 rw [this, insK, List.mem_append, List.mem_cons]
 constructor
 ·rintro (h | h | h)
  ·exact .inr (.inl h)
  ·exact .inl h
  ·exact .inr (.inr h)
 ·rintro (h | h | h)
  ·exact .inr (.inl h)
  ·exact .inl h
  ·exact .inr (.inr h)
theorem PosK.srt {K : Ky α} {ps : List (KV α)} {k : α} {v : List Value} {i : Nat} (h : PosK K ps k i) (hs : SrtK K ps) (hm : ∀ v, (k, v) ∉ ps) : SrtK K (insK ps i (k, v)) := by
 unfold insK SrtK
 have hsp : SrtK K (ps.take i ++ ps.drop i) := by rw [List.take_append_drop]; exact hs
 obtain ⟨h1, h2, h3⟩ := List.pairwise_append.1 hsp
 refine List.pairwise_append.2 ⟨h1, List.pairwise_cons.2 ⟨?_, h2⟩, ?_⟩
 ·intro q hq
  obtain ⟨j, hj⟩ := List.mem_iff_getElem?.1 hq
  rw [List.getElem?_drop] at hj
  cases hb : K.lt k q.1
  ·have := K.tot _ _ (h.high (i + j) q (by omega) hj) hb
   exact absurd (by rw [← this]; exact List.mem_of_getElem? hj) (hm q.2)
  ·rfl
 ·intro p hp q hq
  rcases List.mem_cons.1 hq with rfl | hq
  ·obtain ⟨j, hj⟩ := List.mem_iff_getElem?.1 hp
   rw [List.getElem?_take] at hj
   split at hj
   ·exact h.low j p (by assumption) hj
   ·cases hj
  ·exact h3 p hp q hq
def rowV (K : Ky α) (p : KV α) : List Value := K.enc p.1 :: p.2
def rowsV (K : Ky α) (ps : List (KV α)) : List Value := ps.flatMap (rowV K)
structure WidK (sz : Nat) (ps : List (KV α)) : Prop where
 len : ∀ p ∈ ps, p.2.length + 1 = sz
 one : ∀ p ∈ ps, ∀ u ∈ p.2, u.oneCell' = true
theorem WidK.nil (sz : Nat) : WidK sz ([] : List (KV α)) := ⟨fun p h => (by cases h), fun p h => (by cases h)⟩
theorem WidK.sub {sz : Nat} {ps qs : List (KV α)} (h : WidK sz ps) (hs : ∀ p ∈ qs, p ∈ ps) : WidK sz qs := ⟨fun p hp => h.len p (hs p hp), fun p hp => h.one p (hs p hp)⟩
theorem WidK.ins {sz : Nat} {ps : List (KV α)} (h : WidK sz ps) {i : Nat} {p : KV α} (h1 : p.2.length + 1 = sz) (h2 : ∀ u ∈ p.2, u.oneCell' = true) : WidK sz (insK ps i p) :=
 ⟨fun q hq => by rcases mem_insK.1 hq with rfl | hq; exact h1; exact h.len q hq, fun q hq => by rcases mem_insK.1 hq with rfl | hq; exact h2; exact h.one q hq⟩
theorem rowV_length (K : Ky α) (p : KV α) : (rowV K p).length = p.2.length + 1 := rfl
theorem rowV_one (K : Ky α) {p : KV α} (h : ∀ u ∈ p.2, u.oneCell' = true) : ∀ u ∈ rowV K p, u.oneCell' = true := by
 intro u hu
 rcases List.mem_cons.1 hu with rfl | hu
 ·exact K.one _
 ·exact h u hu
theorem rowsV_length (K : Ky α) {sz : Nat} {ps : List (KV α)} (h : WidK sz ps) : (rowsV K ps).length = ps.length * sz := by
 induction ps with
 | nil => simp [rowsV]
 | cons p ps ih =>
  have h1 := h.len p (mCs ..)
  have h2 := ih (h.sub fun q hq => mCm _ hq)
  simp only [rowsV, List.flatMap_cons, lAp, List.length_cons, rowV_length, Nat.add_mul, Nat.one_mul] at h2 ⊢
  omega
theorem rowsV_one (K : Ky α) {sz : Nat} {ps : List (KV α)} (h : WidK sz ps) : ∀ u ∈ rowsV K ps, u.oneCell' = true := by
 intro u hu
 obtain ⟨p, hp, hq⟩ := List.mem_flatMap.1 hu
 rcases List.mem_cons.1 hq with rfl | hq
 ·exact K.one _
 ·exact h.one p hp u hq
theorem rowsV_append (K : Ky α) (ps qs : List (KV α)) : rowsV K (ps ++ qs) = rowsV K ps ++ rowsV K qs := by simp [rowsV]
theorem rowsV_take (K : Ky α) {sz : Nat} {ps : List (KV α)} (h : WidK sz ps) (i : Nat) : rowsV K (ps.take i) = (rowsV K ps).take (i * sz) := by
 induction ps generalizing i with
 | nil => simp [rowsV]
 | cons p ps ih =>
  cases i with
  | zero => simp [rowsV]
  | succ i =>
   have h1 : (rowV K p).length = sz := h.len p (mCs ..)
   have h2 := ih (h.sub fun q hq => mCm _ hq) i
   simp only [rowsV, List.take_succ_cons, List.flatMap_cons] at h2 ⊢
   have e : (i + 1) * sz = sz + i * sz := by rw [Nat.add_mul, Nat.one_mul, Nat.add_comm]
   rw [h2, e, ← h1, List.take_length_add_append, h1]
theorem rowsV_drop (K : Ky α) {sz : Nat} {ps : List (KV α)} (h : WidK sz ps) (i : Nat) : rowsV K (ps.drop i) = (rowsV K ps).drop (i * sz) := by
 induction ps generalizing i with
 | nil => simp [rowsV]
 | cons p ps ih =>
  cases i with
  | zero => simp [rowsV]
  | succ i =>
   have h1 : (rowV K p).length = sz := h.len p (mCs ..)
   have h2 := ih (h.sub fun q hq => mCm _ hq) i
   simp only [rowsV, List.drop_succ_cons, List.flatMap_cons] at h2 ⊢
   have e : (i + 1) * sz = sz + i * sz := by rw [Nat.add_mul, Nat.one_mul, Nat.add_comm]
   rw [h2, e, ← h1, List.drop_length_add_append, h1]
theorem rowsV_at (K : Ky α) {sz : Nat} {ps : List (KV α)} (h : WidK sz ps) {i : Nat} {p : KV α} (hp : ps[i]? = some p) {j : Nat} {u : Value} (hj : (rowV K p)[j]? = some u) : (rowsV K ps)[i * sz + j]? = some u := by
 have hd : (rowsV K ps).drop (i * sz) = rowV K p ++ rowsV K (ps.drop (i + 1)) := by
  rw [← rowsV_drop K h, List.drop_eq_getElem_cons (gEs.1 hp).1, (gEs.1 hp).2]
  rfl
 have h0 : ((rowsV K ps).drop (i * sz))[j]? = some u := by
  rw [hd, List.getElem?_append_left (gEs.1 hj).1]; exact hj
 rwa [List.getElem?_drop] at h0
theorem rowsV_ins (K : Ky α) {sz : Nat} {ps : List (KV α)} (h : WidK sz ps) (i : Nat) (p : KV α) : rowsV K (insK ps i p) = (rowsV K ps).take (i * sz) ++ rowV K p ++ (rowsV K ps).drop (i * sz) := by
 unfold insK
 rw [rowsV_append, rowsV_take K h, ← rowsV_drop K h, List.append_assoc]
 rfl
def RdK (K : Ky α) (sz : Nat) (w : World) (a : Option Addr) (ps : List (KV α)) : Prop :=
 ps ≠ [] → ∃ b, a = some ⟨b, 0, none⟩ ∧ b < w.heap.size ∧ ∀ i p, ps[i]? = some p → ∀ j u, (rowV K p)[j]? = some u → w.cell? ⟨b, i * sz + j, none⟩ = some u
theorem RdK.below {K : Ky α} {sz : Nat} {w w' : World} {a : Option Addr} {ps : List (KV α)} (h : RdK K sz w a ps) (hb : Below w.heap.size w w') : RdK K sz w' a ps := by
 intro hne
 obtain ⟨b, h1, h2, h3⟩ := h hne
 exact ⟨b, h1, Nat.lt_of_lt_of_le h2 hb.size, fun i p hi j u hj => bkp hb _ _ (h3 i p hi j u hj)⟩
theorem RdK.of_owns {K : Ky α} {sz : Nat} {w : World} {base n c : Nat} {a : Option Addr} {e : TypeId} {ps : List (KV α)} (hw : WidK sz ps) (hs : 0 < sz) (h : w.ownsRow base e sz (.slice a n c) n (rowsV K ps)) : RdK K sz w a ps := by
 intro hne
 rcases h.2 with ⟨e1, e2⟩ | ⟨g, cap, cur, e1, _, hg, _, _, _, ht⟩
 ·have h1 := h.1
  rw [e2, rowsV_length K hw, Nat.zero_mul] at h1
  rcases Nat.mul_eq_zero.1 h1 with h1 | h1
  ·exact absurd (eN0 h1) hne
  ·omega
 ·obtain ⟨rfl, _, _⟩ := Value.slice.inj e1
  refine ⟨g, rfl, loh hg, fun i p hi j u hj => ?_⟩
  have hk := rowsV_at K hw hi hj
  rw [cOh hg]
  rw [← ht, List.getElem?_take] at hk
  split at hk
  ·rw [← Array.getElem?_toList]; exact hk
  ·cases hk
theorem posK_of {K : Ky α} {ps : List (KV α)} {k : α} {lo hi : Nat} (h : lo ≤ hi) (h2 : ¬ lo < hi) (hh : hi ≤ ps.length) (hl : ∀ t p, t < lo → ps[t]? = some p → K.lt p.1 k = true) (hg : ∀ t p, hi ≤ t → ps[t]? = some p → K.lt p.1 k = false) : PosK K ps k lo := by
 obtain rfl : lo = hi := by omega
 exact ⟨hh, hl, hg⟩
theorem lowK_step {K : Ky α} {ps : List (KV α)} {k : α} {m : Nat} {p : KV α} (hs : SrtK K ps) (hm : ps[m]? = some p) (hp : K.lt p.1 k = true) (t : Nat) (q : KV α) (ht : t < m + 1) (hq : ps[t]? = some q) : K.lt q.1 k = true := by
 rcases Nat.lt_or_ge t m with h | h
 ·exact K.trans _ _ _ (hs.lt h hq hm) hp
 ·obtain rfl : t = m := by omega
  rw [hm] at hq
  rw [← sIj hq]; exact hp
theorem highK_step {K : Ky α} {ps : List (KV α)} {k : α} {m : Nat} {p : KV α} (hs : SrtK K ps) (hm : ps[m]? = some p) (hp : K.lt p.1 k = false) (t : Nat) (q : KV α) (ht : m ≤ t) (hq : ps[t]? = some q) : K.lt q.1 k = false := by
 rcases Nat.eq_or_lt_of_le ht with rfl | h
 ·rw [hm] at hq
  rw [← sIj hq]; exact hp
 ·cases hb : K.lt q.1 k
  ·rfl
  ·have := K.trans _ _ _ (hs.lt h hm hq) hb
   rw [hp] at this; cases this
def cmpOf (K : Ky α) [DecidableEq α] (a b : α) : Int := if K.lt a b then -1 else if a = b then 0 else 1
theorem cmpOf_lt {K : Ky α} [DecidableEq α] {a b : α} : cmpOf K a b < 0 ↔ K.lt a b = true := by
 unfold cmpOf
 split
 ·simp_all
 ·split <;> simp_all
theorem cmpOf_eq {K : Ky α} [DecidableEq α] {a b : α} : cmpOf K a b = 0 ↔ a = b := by
 unfold cmpOf
 split
 ·rename_i h
  constructor
  ·intro h; cases h
  ·intro e; exact absurd e (K.ne h)
 ·split <;> simp_all
def FoundK (K : Ky α) (ps : List (KV α)) (k : α) (w : World) (e : Ending) (w' : World) : Prop :=
 ∃ (i : Nat) (b : Bool), e = .returned (.tuple #[.int .i64 i, .bool b]) ∧ PosK K ps k i ∧ (b = true ↔ ∃ v, (k, v) ∈ ps) ∧ Below w.heap.size w w'
theorem foundK_in {K : Ky α} [DecidableEq α] {ps : List (KV α)} {k : α} {i : Nat} (hs : SrtK K ps) (h : PosK K ps k i) (p : KV α) (hp : ps[i]? = some p) : (cmpOf K p.1 k == 0) = true ↔ ∃ v, (k, v) ∈ ps := by
 rw [beq_iff_eq, cmpOf_eq]
 constructor
 ·intro e; exact ⟨p.2, by rw [← e]; exact List.mem_of_getElem? hp⟩
 ·rintro ⟨v, hv⟩
  have := h.at hs hv
  rw [hp] at this
  rw [sIj this]
theorem foundK_out {K : Ky α} {ps : List (KV α)} {k : α} (hs : SrtK K ps) (h : PosK K ps k ps.length) : false = true ↔ ∃ v, (k, v) ∈ ps := by
 constructor
 ·intro e; cases e
 ·rintro ⟨v, hv⟩
  have := (gEs.1 (h.at hs hv)).1
  omega
end
abbrev Ver := Int × Int × Int
abbrev Pk := List UInt8 × Ver
abbrev Gap := Int × Int
abbrev Dp := List UInt8 × List Gap
structure Rc where
 pkg : Pk
 tool : Dp
 build : List Dp
 run : List Dp
deriving DecidableEq
def verGood (v : Ver) : Bool := decide (0 ≤ v.1 ∧ v.1 ≤ 999 ∧ 0 ≤ v.2.1 ∧ v.2.1 ≤ 999 ∧ 0 ≤ v.2.2 ∧ v.2.2 ≤ 999)
def verNum (v : Ver) : Int := if verGood v then (v.1 * 1000 + v.2.1) * 1000 + v.2.2 else -1
def verOf (n : Int) : Ver := (n / 1000000, n / 1000 % 1000, n % 1000)
theorem verNum_lt {v : Ver} (h : verGood v = true) : 0 ≤ verNum v ∧ verNum v < 1000000000 := by
 obtain ⟨a, b, c⟩ := v
 unfold verNum
 rw [if_pos h]
 simp only [verGood, decide_eq_true_eq] at h
 dsimp only
 omega
theorem verOf_num {v : Ver} (h : verGood v = true) : verOf (verNum v) = v := by
 obtain ⟨a, b, c⟩ := v
 unfold verNum verOf
 rw [if_pos h]
 simp only [verGood, decide_eq_true_eq] at h
 refine Prod.ext ?_ (Prod.ext ?_ ?_) <;> dsimp only <;> omega
theorem verOf_good {n : Int} (h : 0 ≤ n) (h' : n < 1000000000) : verGood (verOf n) = true ∧ verNum (verOf n) = n := by
 have hg : verGood (verOf n) = true := by
  unfold verGood verOf
  refine decide_eq_true ?_
  dsimp only
  omega
 refine ⟨hg, ?_⟩
 unfold verNum
 rw [if_pos hg]
 simp only [verOf]
 omega
def inGaps (r : List Gap) (n : Int) : Bool := r.any fun g => decide (g.1 ≤ n ∧ n < g.2)
def spanHas (r : List Gap) (v : Ver) : Bool := verGood v && inGaps r (verNum v)
def willB (d : Dp) (p : Pk) : Bool := decide (p.1 = d.1) && spanHas d.2 p.2
inductive Res where
 | ok (chosen : List Pk)
 | clash
 | budget
deriving DecidableEq
def tryF (f : Nat → List Dp → List Pk → Option (Res × Nat)) (R : Pk → List Dp) (rest : List Dp) (ch : List Pk) : Nat → List Pk → Option (Res × Nat)
 | b, [] => some (.clash, b)
 | 0, _ :: _ => some (.budget, 0)
 | b + 1, p :: ps => match f b (rest ++ R p) (ch ++ [p]) with
  | none => none
  | some (.clash, b') => tryF f R rest ch b' ps
  | some (.ok c, b') => some (.ok c, b')
  | some (.budget, b') => some (.budget, b')
def meetF (F : Dp → List Pk) (R : Pk → List Dp) : Nat → Nat → List Dp → List Pk → Option (Res × Nat)
 | 0, _, _, _ => none
 | n + 1, b, [], ch => some (.ok ch, b)
 | n + 1, b, d :: rest, ch => match ch.find? (fun p => decide (p.1 = d.1)) with
  | some p => if willB d p then meetF F R n b rest ch else some (.clash, b)
  | none => tryF (meetF F R n) R rest ch b (F d)
theorem tryF_mono {f g : Nat → List Dp → List Pk → Option (Res × Nat)} {R : Pk → List Dp} {rest : List Dp} {ch : List Pk} (h : ∀ b w c r, f b w c = some r → g b w c = some r) :
  ∀ (ps : List Pk) (b : Nat) (r : Res × Nat), tryF f R rest ch b ps = some r → tryF g R rest ch b ps = some r
 | [], b, r, hr => by
  cases b <;> exact hr
 | p :: ps, 0, r, hr => hr
 | p :: ps, b + 1, r, hr => by
  unfold tryF at hr ⊢
  cases hf : f b (rest ++ R p) (ch ++ [p]) with
  | none => rw [hf] at hr; cases hr
  | some x =>
   rw [hf] at hr
   rw [h _ _ _ _ hf]
   obtain ⟨x, b'⟩ := x
   cases x with
   | ok c => exact hr
   | budget => exact hr
   | clash => exact tryF_mono h ps b' r hr
theorem meetF_succ {F : Dp → List Pk} {R : Pk → List Dp} : ∀ (n b : Nat) (w : List Dp) (c : List Pk) (r : Res × Nat), meetF F R n b w c = some r → meetF F R (n + 1) b w c = some r
 | 0, b, w, c, r, h => by cases h
 | n + 1, b, [], c, r, h => h
 | n + 1, b, d :: rest, c, r, h => by
  unfold meetF at h ⊢
  split at h
  ·rename_i p hp
   split at h
   ·rename_i hw
    rw [if_pos hw]
    exact meetF_succ n b rest c r h
   ·rename_i hw
    rw [if_neg hw]
    exact h
  ·rename_i hp
   exact tryF_mono (meetF_succ n) _ _ _ h
theorem meetF_mono {F : Dp → List Pk} {R : Pk → List Dp} {n m b : Nat} {w : List Dp} {c : List Pk} {r : Res × Nat} (hnm : n ≤ m) (h : meetF F R n b w c = some r) : meetF F R m b w c = some r := by
 induction hnm with
 | refl => exact h
 | step _ ih => exact meetF_succ _ _ _ _ _ ih
theorem meetF_det {F : Dp → List Pk} {R : Pk → List Dp} {n m b : Nat} {w : List Dp} {c : List Pk} {r r' : Res × Nat} (h : meetF F R n b w c = some r) (h' : meetF F R m b w c = some r') : r = r' := by
 rcases Nat.le_total n m with hnm | hnm
 ·exact sIj ((meetF_mono hnm h).symm.trans h')
 ·exact sIj (h.symm.trans (meetF_mono hnm h'))
theorem meetF_ends (F : Dp → List Pk) (R : Pk → List Dp) : ∀ (b : Nat) (w : List Dp) (c : List Pk), ∃ n r, meetF F R n b w c = some r ∧ r.2 ≤ b := by
 intro b
 induction b using Nat.strongRecOn with
 | _ b ihb =>
  intro w
  induction w with
  | nil => intro c; exact ⟨1, (.ok c, b), rfl, Nat.le_refl _⟩
  | cons d rest ihw =>
   intro c
   cases hf : c.find? (fun p => decide (p.1 = d.1)) with
   | some p =>
    cases hw : willB d p with
    | true =>
     obtain ⟨n, r, h, hl⟩ := ihw c
     refine ⟨n + 1, r, ?_, hl⟩
     unfold meetF
     rw [hf]
     dsimp only
     rw [if_pos hw]
     exact h
    | false =>
     refine ⟨1, (.clash, b), ?_, Nat.le_refl _⟩
     unfold meetF
     rw [hf]
     dsimp only
     rw [hw]
     rfl
   | none =>
    have key : ∀ (ps : List Pk) (k : Nat), k ≤ b → ∃ n r, tryF (meetF F R n) R rest c k ps = some r ∧ r.2 ≤ k := by
     intro ps
     induction ps with
     | nil => intro k hk; exact ⟨0, (.clash, k), by cases k <;> rfl, Nat.le_refl _⟩
     | cons p ps ihp =>
      intro k hk
      cases k with
      | zero => exact ⟨0, (.budget, 0), rfl, Nat.le_refl _⟩
      | succ k =>
       obtain ⟨n, r, h, hl⟩ := ihb k (by omega) (rest ++ R p) (c ++ [p])
       obtain ⟨x, b'⟩ := r
       cases x with
       | ok c' => exact ⟨n, (.ok c', b'), by unfold tryF; rw [h], by dsimp only at hl ⊢; omega⟩
       | budget => exact ⟨n, (.budget, b'), by unfold tryF; rw [h], by dsimp only at hl ⊢; omega⟩
       | clash =>
        dsimp only at hl
        obtain ⟨m, r2, h2, hl2⟩ := ihp b' (by omega)
        refine ⟨max n m, r2, ?_, by omega⟩
        unfold tryF
        rw [meetF_mono (Nat.le_max_left n m) h]
        exact tryF_mono (fun _ _ _ _ hh => meetF_mono (Nat.le_max_right n m) hh) _ _ _ h2
    obtain ⟨n, r, h, hl⟩ := key (F d) b (Nat.le_refl _)
    refine ⟨n + 1, r, ?_, hl⟩
    unfold meetF
    rw [hf]
    exact h
noncomputable def meet (F : Dp → List Pk) (R : Pk → List Dp) (b : Nat) (w : List Dp) (c : List Pk) : Res × Nat := Classical.choose (Classical.choose_spec (meetF_ends F R b w c))
theorem meet_some (F : Dp → List Pk) (R : Pk → List Dp) (b : Nat) (w : List Dp) (c : List Pk) : ∃ n, meetF F R n b w c = some (meet F R b w c) ∧ (meet F R b w c).2 ≤ b :=
 ⟨_, Classical.choose_spec (Classical.choose_spec (meetF_ends F R b w c))⟩
theorem meet_of {F : Dp → List Pk} {R : Pk → List Dp} {n b : Nat} {w : List Dp} {c : List Pk} {r : Res × Nat} (h : meetF F R n b w c = some r) : meet F R b w c = r :=
 let ⟨_, h', _⟩ := meet_some F R b w c
 meetF_det h' h
def okB (c : UInt8) : Bool := (97 ≤ c && c ≤ 122) || (48 ≤ c && c ≤ 57) || c == 45 || c == 95 || c == 46
def nameB (l : List UInt8) : Bool := !l.isEmpty && decide (l.length ≤ 32) && (l.head? != some 46) && l.all okB
/-! ### Join, Base, Under -/
end Go.Proofs.YtaagkndhgicifaaGreat
