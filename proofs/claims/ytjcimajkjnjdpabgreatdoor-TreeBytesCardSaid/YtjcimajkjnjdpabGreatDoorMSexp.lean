/- DERIVED. Texts of this claim, put together: SexpNode, SexpCount, SexpTab, SexpMath. -/
import Derived.Test.YtjcimajkjnjdpabGreatDoorMBase
import Derived.Deep.WholeRow
import Derived.Test.YtjcimajkjnjdpabGreatDoorRows
import Derived.Test.YtjcimajkjnjdpabGreatDoorStd
import Derived.Lib.LaidTab
import Derived.Lib.SmallJoins
import Derived.Stop.LaidErr
import Derived.LaidMore
import Derived.Shelf.SlSorted.Search
/- DERIVED. api.Node as a Lean type; how memory holds one; an argument of that type, opened. -/
namespace Go.Proofs.YtjcimajkjnjdpabGreatDoor
open Go.RowKit
set_option linter.unusedVariables false
set_option maxRecDepth 100000

inductive T where
  | mk (leaf : Bool) (atom : List UInt8) (kids : List T) : T
def T.leaf : T → Bool | .mk l _ _ => l
def T.atom : T → List UInt8 | .mk _ a _ => a
def T.kids : T → List T | .mk _ _ k => k
mutual
/-- The three values of a node, as memory holds it. -/
def NodeAt (w : World) : T → Value → Value → Value → Prop
  | .mk leaf atom kids, v0, v1, v2 => v0 = .bool leaf ∧ v1 = strV atom ∧ atom.length ≤ 140737488351232 ∧ kids.length ≤ 140737488351232 ∧ ∃ a c, v2 = .slice a kids.length c ∧ kids.length ≤ c ∧ c ≤ maxLen ∧ (a = none → c = 0) ∧ (kids = [] ∨ ∃ b o, a = some ⟨b, o, none⟩ ∧ KidsAt w b o kids)
def KidsAt (w : World) (b : Nat) : Nat → List T → Prop
  | _, [] => True
  | o, t :: ts => (∃ v0 v1 v2, w.cell? ⟨b, o, none⟩ = some v0 ∧ w.cell? ⟨b, o + 1, none⟩ = some v1 ∧ w.cell? ⟨b, o + 2, none⟩ = some v2 ∧ NodeAt w t v0 v1 v2) ∧ KidsAt w b (o + 3) ts
end
def nodeV (v0 v1 v2 : Value) : Value := .agg #[v0, v1, v2]
theorem KidsAt.get {w : World} {b : Nat} : ∀ {o : Nat} {ts : List T}, KidsAt w b o ts → ∀ (i : Nat) (t : T), ts[i]? = some t →
    ∃ v0 v1 v2, w.cell? ⟨b, o + i * 3, none⟩ = some v0 ∧ w.cell? ⟨b, o + i * 3 + 1, none⟩ = some v1 ∧ w.cell? ⟨b, o + i * 3 + 2, none⟩ = some v2 ∧ NodeAt w t v0 v1 v2
  | o, [], _, i, t, h => by cases h
  | o, t0 :: ts, h, 0, t, hi => by
    obtain rfl := Option.some.inj hi
    unfold KidsAt at h
    simpa using h.1
  | o, t0 :: ts, h, i + 1, t, hi => by
    unfold KidsAt at h
    have := KidsAt.get h.2 i t hi
    rw [show o + (i + 1) * 3 = o + 3 + i * 3 from by omega]
    exact this
theorem KidsAt.of {w : World} {b : Nat} : ∀ {o : Nat} {ts : List T}, (∀ (i : Nat) (t : T), ts[i]? = some t → ∃ v0 v1 v2, w.cell? ⟨b, o + i * 3, none⟩ = some v0 ∧ w.cell? ⟨b, o + i * 3 + 1, none⟩ = some v1 ∧ w.cell? ⟨b, o + i * 3 + 2, none⟩ = some v2 ∧ NodeAt w t v0 v1 v2) → KidsAt w b o ts
  | o, [], _ => by unfold KidsAt; trivial
  | o, t0 :: ts, h => by
    unfold KidsAt
    refine ⟨by simpa using h 0 t0 rfl, KidsAt.of fun i t hi => ?_⟩
    have := h (i + 1) t hi
    rwa [show o + (i + 1) * 3 = o + 3 + i * 3 from by omega] at this
mutual
theorem NodeAt.mono {w w' : World} (hk : ∀ a u, w.cell? a = some u → w'.cell? a = some u) : ∀ (t : T) (v0 v1 v2 : Value), NodeAt w t v0 v1 v2 → NodeAt w' t v0 v1 v2
  | .mk leaf atom kids, v0, v1, v2, h => by
    unfold NodeAt at h ⊢
    obtain ⟨h0, h1, h2, h3, a, c, h4, h5, h6, h7, h8⟩ := h
    refine ⟨h0, h1, h2, h3, a, c, h4, h5, h6, h7, ?_⟩
    rcases h8 with h8 | ⟨b, o, h8, h9⟩
    · exact .inl h8
    · exact .inr ⟨b, o, h8, KidsAt.mono hk kids b o h9⟩
theorem KidsAt.mono {w w' : World} (hk : ∀ a u, w.cell? a = some u → w'.cell? a = some u) : ∀ (ts : List T) (b o : Nat), KidsAt w b o ts → KidsAt w' b o ts
  | [], b, o, _ => by unfold KidsAt; trivial
  | t :: ts, b, o, h => by
    unfold KidsAt at h ⊢
    obtain ⟨⟨v0, v1, v2, h0, h1, h2, h3⟩, h4⟩ := h
    exact ⟨⟨v0, v1, v2, hk _ _ h0, hk _ _ h1, hk _ _ h2, NodeAt.mono hk t v0 v1 v2 h3⟩, KidsAt.mono hk ts b (o + 3) h4⟩
end
theorem NodeAt.below {w w' : World} {t : T} {v0 v1 v2 : Value} (h : NodeAt w t v0 v1 v2) (hb : Below w.heap.size w w') : NodeAt w' t v0 v1 v2 := NodeAt.mono (below_keeps hb) t v0 v1 v2 h
/-- What a node's values are, and its kids'. -/
theorem NodeAt.open {w : World} {t : T} {v0 v1 v2 : Value} (h : NodeAt w t v0 v1 v2) : v0 = .bool t.leaf ∧ v1 = strV t.atom ∧ t.atom.length ≤ 140737488351232 ∧ t.kids.length ≤ 140737488351232 ∧ ∃ a c, v2 = .slice a t.kids.length c ∧ t.kids.length ≤ c ∧ c ≤ maxLen ∧
    (∀ (i : Nat) (k : T), t.kids[i]? = some k → ∃ b o u0 u1 u2, a = some ⟨b, o, none⟩ ∧ w.cell? ⟨b, o + i * 3, none⟩ = some u0 ∧ w.cell? ⟨b, o + i * 3 + 1, none⟩ = some u1 ∧ w.cell? ⟨b, o + i * 3 + 2, none⟩ = some u2 ∧ NodeAt w k u0 u1 u2) := by
  obtain ⟨leaf, atom, kids⟩ := t
  unfold NodeAt at h
  obtain ⟨h0, h1, h2, h3, a, c, h4, h5, h6, h7, h8⟩ := h
  refine ⟨h0, h1, h2, h3, a, c, h4, h5, h6, fun i k hi => ?_⟩
  rcases h8 with h8 | ⟨b, o, h8, h9⟩
  · have hi' : kids[i]? = some k := hi
    rw [h8] at hi'; cases hi'
  · obtain ⟨u0, u1, u2, g⟩ := KidsAt.get h9 i k hi
    exact ⟨b, o, u0, u1, u2, h8, g⟩
theorem three_cells {w : World} {a : Addr} {cs : List Value} (h : w.cells? 0 a 3 = some cs) : ∃ x y z, cs = [x, y, z] ∧ w.cell? a = some x ∧ w.cell? (a.add 1) = some y ∧ w.cell? (a.add 2) = some z := by
  unfold World.cells? at h
  rw [if_pos (Nat.zero_le _)] at h
  simp [List.range, List.range.loop] at h
  rw [show a.add 0 = a from by simp [Addr.add]] at h
  cases h0 : w.cell? a with
  | none => rw [h0] at h; simp at h
  | some x =>
    cases h1 : w.cell? (a.add 1) with
    | none => rw [h0, h1] at h; simp at h
    | some y =>
      cases h2 : w.cell? (a.add 2) with
      | none => rw [h0, h1, h2] at h; simp at h
      | some z =>
        rw [h0, h1, h2] at h
        simp at h
        exact ⟨x, y, z, h.symm, rfl, rfl, rfl⟩
theorem list_of {α : Type} {P : Nat → α → Prop} : ∀ n : Nat, (∀ i, i < n → ∃ t, P i t) → ∃ ts : List α, ts.length = n ∧ ∀ (i : Nat) t, ts[i]? = some t → P i t
  | 0, _ => ⟨[], rfl, fun i t h => by cases h⟩
  | n + 1, h => by
    obtain ⟨ts, h1, h2⟩ := list_of n (fun i hi => h i (by omega))
    obtain ⟨t, ht⟩ := h n (by omega)
    refine ⟨ts ++ [t], by simp [h1], fun i u hi => ?_⟩
    by_cases hl : i < ts.length
    · rw [List.getElem?_append_left hl] at hi; exact h2 i u hi
    · rw [List.getElem?_append_right (by omega)] at hi
      have hz : i - ts.length = 0 := by
        have := (List.getElem?_eq_some_iff.1 hi).1
        simp at this; omega
      rw [hz] at hi
      obtain rfl := Option.some.inj hi
      rw [show i = n from by omega]; exact ht
theorem kids_of_arg {H : Type} {enc : TypeId × Value → H} {w : World} {fuel : Nat} {v : Value}
    (ih : ∀ cs : List Value, Arg enc Tryz.prog w (fuel - 1) 50 cs → ∃ t v0 v1 v2, cs = [v0, v1, v2] ∧ NodeAt w t v0 v1 v2)
    (h : Arg enc Tryz.prog w fuel 48 [v]) : ∃ (a : Option Addr) (c : Nat) (kids : List T), v = .slice a kids.length c ∧ kids.length ≤ 140737488351232 ∧ kids.length ≤ c ∧ c ≤ maxLen ∧ (a = none → c = 0) ∧ (kids = [] ∨ ∃ b o, a = some ⟨b, o, none⟩ ∧ KidsAt w b o kids) := by
  obtain ⟨a, len, c, hv, hl, hm, hb, hn, hc⟩ := h.slice Tryz.underlying48
  obtain rfl : v = .slice a len c := by simpa using hv
  have hcl : Tryz.prog.cellsOf 50 = 3 := by kernel_rfl
  have hlen : len ≤ 140737488351232 := by
    rw [show Tryz.prog.bytesOf 50 = 48 from by kernel_rfl] at hb
    omega
  cases a with
  | none =>
    have h0 := hn rfl
    obtain rfl : len = 0 := by omega
    exact ⟨none, c, [], rfl, Nat.zero_le _, Nat.zero_le _, hm, hn, .inl rfl⟩
  | some ad =>
    have key : ∀ i, i < len → ∃ t, ∃ v0 v1 v2, w.cell? (ad.add (i * 3)) = some v0 ∧ w.cell? ((ad.add (i * 3)).add 1) = some v1 ∧ w.cell? ((ad.add (i * 3)).add 2) = some v2 ∧ NodeAt w t v0 v1 v2 := by
      intro i hi
      obtain ⟨cs, h1, h2⟩ := hc ad rfl i hi
      rw [hcl] at h1
      obtain ⟨t, v0, v1, v2, e, ht⟩ := ih cs h2
      obtain ⟨x, y, z, e2, c0, c1, c2⟩ := three_cells h1
      rw [e] at e2
      simp only [List.cons.injEq, and_true] at e2
      obtain ⟨rfl, rfl, rfl⟩ := e2
      exact ⟨t, v0, v1, v2, c0, c1, c2, ht⟩
    obtain ⟨ts, h1, h2⟩ := list_of len key
    refine ⟨some ad, c, ts, by rw [h1], by omega, by omega, hm, fun h => (Option.some_ne_none _ h).elim, ?_⟩
    by_cases h0 : ts = []
    · exact .inl h0
    · refine .inr ?_
      obtain ⟨t0, ht0⟩ : ∃ t, ts[0]? = some t := ⟨_, List.getElem?_eq_getElem (List.length_pos_iff.2 h0)⟩
      obtain ⟨_, _, _, g0, _⟩ := h2 0 t0 ht0
      have hs : ad.spot = none := by
        have := cell_spot g0
        simpa [Addr.add] using this
      obtain ⟨b, o, s⟩ := ad
      simp only at hs; subst hs
      refine ⟨b, o, rfl, KidsAt.of fun i t hi => ?_⟩
      have := h2 i t hi
      simp only [Addr.add_lit] at this
      exact this
theorem node_of_arg {H : Type} {enc : TypeId × Value → H} {w : World} : ∀ (fuel : Nat) (cs : List Value), Arg enc Tryz.prog w fuel 50 cs → ∃ t v0 v1 v2, cs = [v0, v1, v2] ∧ NodeAt w t v0 v1 v2 := by
  intro fuel
  induction fuel using Nat.strongRecOn with
  | _ fuel ih =>
    intro cs h
    cases fuel with
    | zero =>
      obtain ⟨x, hx, _⟩ := h
      cases hx
    | succ f =>
      obtain ⟨hl, hf⟩ := h.struct Tryz.underlying50
      rw [show Tryz.prog.cellsOf 50 = 3 from by kernel_rfl] at hl
      obtain ⟨x, y, z, rfl⟩ : ∃ x y z, cs = [x, y, z] := by
        match cs, hl with
        | [x, y, z], _ => exact ⟨x, y, z, rfl⟩
      have f0 : Arg enc Tryz.prog w f 4 (List.take (Tryz.prog.cellsOf 4) [x, y, z]) := hf 0 _ rfl
      have f1 : Arg enc Tryz.prog w f 9 (List.take (Tryz.prog.cellsOf 9) [y, z]) := hf 1 _ rfl
      have f2 : Arg enc Tryz.prog w f 48 (List.take (Tryz.prog.cellsOf 48) [z]) := hf 2 _ rfl
      rw [show Tryz.prog.cellsOf 4 = 1 from by kernel_rfl] at f0
      rw [show Tryz.prog.cellsOf 9 = 1 from by kernel_rfl] at f1
      rw [show Tryz.prog.cellsOf 48 = 1 from by kernel_rfl] at f2
      simp only [List.take_succ_cons, List.take_zero] at f0 f1 f2
      obtain ⟨lf, e0⟩ := f0.bool Tryz.underlying4
      obtain ⟨s, e1, hs⟩ := f1.string Tryz.underlying9
      obtain ⟨a, c, kids, e2, k1, k2, k3, k4, k5⟩ := kids_of_arg (fun cs h => ih (f - 1) (by omega) cs h) f2
      refine ⟨.mk lf s.data.toList kids, x, y, z, rfl, ?_⟩
      unfold NodeAt
      simp only [List.cons.injEq, and_true] at e0 e1
      exact ⟨e0, by rw [e1]; unfold strV; cases s; simp, by simpa using hs, k1, a, c, e2, k2, k3, k4, k5⟩
end Go.Proofs.YtjcimajkjnjdpabGreatDoor

/- DERIVED. Sizes of nodes (for seats without saplinglaw01). -/
namespace Go.Proofs.YtjcimajkjnjdpabGreatDoor
open Go.RowKit
set_option linter.unusedVariables false

theorem kid_size {l : Bool} {a : List UInt8} {ks : List T} {k : T} (h : k ∈ ks) : SizeOf.sizeOf k < SizeOf.sizeOf (T.mk l a ks) := by
  have := List.sizeOf_lt_of_mem h
  simp; omega
theorem box_cells (w : World) (v0 v1 v2 : Value) : (w.alloc (.cells #[v0, v1, v2] 50)).cell? ⟨w.heap.size, 0, none⟩ = some v0 ∧ (w.alloc (.cells #[v0, v1, v2] 50)).cell? ⟨w.heap.size, 1, none⟩ = some v1 ∧ (w.alloc (.cells #[v0, v1, v2] 50)).cell? ⟨w.heap.size, 2, none⟩ = some v2 := by
  have h := cell_of_heap (heap_alloc_new w (.cells #[v0, v1, v2] 50))
  exact ⟨by rw [h]; rfl, by rw [h]; rfl, by rw [h]; rfl⟩
end Go.Proofs.YtjcimajkjnjdpabGreatDoor

/- DERIVED. The library's table, and strconv.Itoa. -/
namespace Go.Proofs.YtjcimajkjnjdpabGreatDoor
open Go.RowKit
set_option linter.unusedVariables false

def Tab (w : World) : Prop := Lib.TabIs Tryz.prog w "internal/strconv.uint64pow10" .u64 Lib.pow10Tab
theorem tab_of_laid {w : World} (h : laidMetH Tryz.prog [("math/bits.deBruijn32tab", Rows.laid_math_bits_deBruijn32tab), ("math/bits.deBruijn64tab", Rows.laid_math_bits_deBruijn64tab), ("internal/strconv.uint64pow10", Rows.laid_internal_strconv_uint64pow10)] w) : Tab w := by
  rw [MakeChecks.laidMetH_plain _ _ _ (by kernel_rfl)] at h
  have h3 := h.tail.tail
  have e : (Rows.laid_internal_strconv_uint64pow10 : DataW Unit) = Lib.tabData .u64 Lib.pow10Tab := by kernel_rfl
  rw [e] at h3
  exact Lib.tabIs_of_head (g := 3) (t := 150) (e := 120) (n := 20) (by kernel_rfl) (by kernel_rfl) Tryz.underlying150 Tryz.underlying120 (by kernel_rfl) (by kernel_rfl) h3
theorem Tab.below {w w' : World} (h : Tab w) (hb : Below w.heap.size w w') : Tab w' := Joins.tab_stays (g := 3) (by kernel_rfl) h hb (Nat.le_refl _)
theorem itoa_any (n : Nat) (w : World) (hn : n ≤ 140737488355328) (ht : Tab w) : Calls Tryz.prog 71 #[.int .i64 n] w (fun e w' => e = .returned (strV (Lib.itoa n)) ∧ Below w.heap.size w w') := by
  refine (Tryz.strconv_Itoa n (by omega) (by omega) w ht).mono ?_
  rintro e w' ⟨rfl, k, os, rfl⟩
  exact ⟨rfl, below_grown_sl _ w k os (Nat.le_refl _)⟩
end Go.Proofs.YtjcimajkjnjdpabGreatDoor

/- DERIVED. The bytes of a node, as plain functions. -/
namespace Go.Proofs.YtjcimajkjnjdpabGreatDoor
open Go.RowKit
set_option linter.unusedVariables false

/-- Are they too many? -/
def roomB (b : List UInt8) : Except Int (List UInt8) := if 65536 < b.length then .error 3 else .ok b
def atomB (a : List UInt8) : List UInt8 := Lib.itoa a.length ++ 58 :: a
mutual
/-- Bytes with a node's behind them, which stands within so many lists. -/
def putT (d : Nat) (b : List UInt8) : T → Except Int (List UInt8)
  | .mk lf a ks =>
    if lf then (if ks.isEmpty then (if 65536 < a.length then .error 3 else roomB (b ++ atomB a)) else .error 1)
    else if a.isEmpty then (if 32 ≤ d then .error 4 else match roomB (b ++ [40]) with
      | .error e => .error e
      | .ok b1 => match putsT (d + 1) b1 ks with
        | .error e => .error e
        | .ok b2 => roomB (b2 ++ [41])) else .error 1
def putsT (d : Nat) (b : List UInt8) : List T → Except Int (List UInt8)
  | [] => .ok b
  | k :: ks => match putT d b k with
    | .error e => .error e
    | .ok b1 => putsT d b1 ks
end
theorem roomB_ok {b c : List UInt8} (h : roomB b = .ok c) : c = b ∧ b.length ≤ 65536 := by
  unfold roomB at h
  split at h
  · cases h
  · exact ⟨(Except.ok.inj h).symm, by omega⟩
theorem roomB_err {b : List UInt8} {e : Int} (h : roomB b = .error e) : e = 3 ∧ 65536 < b.length := by
  unfold roomB at h
  split at h
  · rename_i hl; exact ⟨(Except.error.inj h).symm, hl⟩
  · cases h
mutual
theorem putT_len : ∀ (t : T) (d : Nat) (b c : List UInt8), putT d b t = .ok c → c.length ≤ 65536
  | .mk lf a ks, d, b, c, h => by
    unfold putT at h
    split at h
    · split at h
      · split at h
        · cases h
        · have := roomB_ok h; rw [this.1]; exact this.2
      · cases h
    · split at h
      · split at h
        · cases h
        · split at h
          · cases h
          · split at h
            · cases h
            · have := roomB_ok h; rw [this.1]; exact this.2
      · cases h
theorem putsT_len : ∀ (ks : List T) (d : Nat) (b c : List UInt8), b.length ≤ 65536 → putsT d b ks = .ok c → c.length ≤ 65536
  | [], d, b, c, hb, h => by
    unfold putsT at h
    rw [← Except.ok.inj h]; exact hb
  | k :: ks, d, b, c, hb, h => by
    unfold putsT at h
    split at h
    · cases h
    · rename_i b1 h1
      exact putsT_len ks d b1 c (putT_len k d b b1 h1) h
end

mutual
theorem putT_err : ∀ (t : T) (d : Nat) (b : List UInt8) (e : Int), putT d b t = .error e → e = 1 ∨ e = 3 ∨ e = 4
  | .mk lf a ks, d, b, e, h => by
    unfold putT at h
    split at h
    · split at h
      · split at h
        · exact .inr (.inl (Except.error.inj h).symm)
        · exact .inr (.inl (roomB_err h).1)
      · exact .inl (Except.error.inj h).symm
    · split at h
      · split at h
        · exact .inr (.inr (Except.error.inj h).symm)
        · split at h
          · rename_i e1 h1
            rw [← Except.error.inj h]; exact .inr (.inl (roomB_err h1).1)
          · split at h
            · rename_i e1 h1
              rw [← Except.error.inj h]; exact putsT_err ks (d + 1) _ e1 h1
            · exact .inr (.inl (roomB_err h).1)
      · exact .inl (Except.error.inj h).symm
theorem putsT_err : ∀ (ks : List T) (d : Nat) (b : List UInt8) (e : Int), putsT d b ks = .error e → e = 1 ∨ e = 3 ∨ e = 4
  | [], d, b, e, h => by unfold putsT at h; cases h
  | k :: ks, d, b, e, h => by
    unfold putsT at h
    split at h
    · rename_i e1 h1
      rw [← Except.error.inj h]; exact putT_err k d b e1 h1
    · exact putsT_err ks d _ e h
end
/-- A node's bytes, as Encode answers them. -/
def encT (t : T) : List UInt8 × Int := match putT 0 [] t with
  | .ok b => (b, 0)
  | .error e => ([], e)
theorem puts_drop {d : Nat} {b : List UInt8} {ks : List T} {k : Nat} {t : T} (h : ks[k]? = some t) : putsT d b (ks.drop k) = match putT d b t with
    | .error e => .error e
    | .ok b1 => putsT d b1 (ks.drop (k + 1)) := by
  obtain ⟨hk, rfl⟩ := List.getElem?_eq_some_iff.1 h
  rw [List.drop_eq_getElem_cons hk]
  conv => lhs; unfold putsT
end Go.Proofs.YtjcimajkjnjdpabGreatDoor
