/- DERIVED. slices.DeleteFunc among files, with whatever predicate. -/
import Derived.Test.YtjcimajkjnjdpabGreatDoorTreeMount
import Derived.Laws.CopyRow
namespace Go.Proofs.YtjcimajkjnjdpabGreatDoor
open Go.RowKit
set_option linter.unusedVariables false

/-! ### A row of the call's own, whole -/
def OwnRow (w : World) (g c : Nat) (ps : List Pr) : Prop := ∃ C : Array Value, w.heap[g]? = some (.cells C 35 (0, 0)) ∧ C.size = c * 2 ∧ ∀ k p, ps[k]? = some p → C[k * 2]? = some (strV p.1) ∧ C[k * 2 + 1]? = some (strV p.2)
theorem OwnRow.fl {w : World} {g c : Nat} {ps : List Pr} (h : OwnRow w g c ps) : FlRow w g ps := by
  obtain ⟨C, h1, _, h3⟩ := h
  exact ⟨C, _, h1, h3⟩
theorem OwnRow.keep {w w' : World} {g c : Nat} {ps : List Pr} (h : OwnRow w g c ps) (hk : w'.heap[g]? = w.heap[g]?) : OwnRow w' g c ps := by
  obtain ⟨C, h1, h2⟩ := h
  exact ⟨C, hk.trans h1, h2⟩
theorem OwnRow.put {w : World} {g c : Nat} {ps : List Pr} (h : OwnRow w g c ps) {k : Nat} (hk : k < ps.length) (q : Pr) : OwnRow ((w.setCell ⟨g, k * 2, none⟩ (strV q.1)).setCell ⟨g, k * 2 + 1, none⟩ (strV q.2)) g c (ps.set k q) := by
  obtain ⟨C, h1, h2, h3⟩ := h
  refine ⟨_, heap_setCell_here _ (heap_setCell_here _ h1), by simp [h2], fun i p hi => ?_⟩
  have hkc := h3 k _ (List.getElem?_eq_getElem hk)
  have hs0 := (Array.getElem?_eq_some_iff.1 hkc.1).1
  have hs1 := (Array.getElem?_eq_some_iff.1 hkc.2).1
  rw [List.getElem?_set] at hi
  split at hi
  · rename_i e
    subst e
    obtain rfl := Option.some.inj hi
    constructor
    · rw [Array.getElem?_setIfInBounds_ne (by omega), Array.getElem?_setIfInBounds_self_of_lt hs0]
    · rw [Array.getElem?_setIfInBounds_self_of_lt (by simp; exact hs1)]
  · rename_i e
    obtain ⟨a1, a2⟩ := h3 i p hi
    constructor
    · rw [Array.getElem?_setIfInBounds_ne (by omega), Array.getElem?_setIfInBounds_ne (by omega)]; exact a1
    · rw [Array.getElem?_setIfInBounds_ne (by omega), Array.getElem?_setIfInBounds_ne (by omega)]; exact a2
theorem OwnRow.of_owns {w : World} {base : Nat} {a : Option Addr} {c : Nat} {ps : List Pr} (h : OwnFl w base a c ps) : (a = none ∧ ps = [] ∧ c = 0) ∨ ∃ g, a = some ⟨g, 0, none⟩ ∧ base ≤ g ∧ OwnRow w g c ps ∧ ps.length ≤ c ∧ c ≤ maxLen := by
  rcases h.2 with ⟨e1, e2⟩ | ⟨g, cap, cur, e1, h1, hg, hn, hm, hc, ht⟩
  · obtain ⟨rfl, _, rfl⟩ := Value.slice.inj e1
    exact .inl ⟨rfl, List.eq_nil_of_length_eq_zero e2, rfl⟩
  · obtain ⟨rfl, _, rfl⟩ := Value.slice.inj e1
    have key : ∀ (j : Nat) (u : Value), (pairsV ps)[j]? = some u → cur[j]? = some u := by
      intro j u hj
      rw [← ht, List.getElem?_take] at hj
      split at hj
      · rw [← Array.getElem?_toList]; exact hj
      · cases hj
    exact .inr ⟨g, rfl, h1, ⟨cur, hg, hc, fun i p hi => ⟨key _ _ (pairsV_at ps i p hi).1, key _ _ (pairsV_at ps i p hi).2⟩⟩, hn, hm⟩
theorem OwnRow.owns {w : World} {base g c : Nat} {ps : List Pr} (h : OwnRow w g c ps) (hb : base ≤ g) (hl : ps.length ≤ c) (hm : c ≤ maxLen) : OwnFl w base (some ⟨g, 0, none⟩) c ps := by
  obtain ⟨C, h1, h2, h3⟩ := h
  refine ⟨pairsV_length ps, .inr ⟨g, c, C, rfl, hb, h1, hl, hm, h2, ?_⟩⟩
  apply List.ext_getElem?
  intro j
  rw [List.getElem?_take]
  by_cases hj : j < ps.length * 2
  · rw [if_pos hj, Array.getElem?_toList]
    have hx : j < (pairsV ps).length := by rw [pairsV_length]; exact hj
    obtain ⟨i, p, hp, hu⟩ := pairsV_get ps j _ (List.getElem?_eq_getElem hx)
    rw [List.getElem?_eq_getElem hx]
    obtain ⟨h4, h5⟩ := h3 i p hp
    rcases hu with ⟨rfl, e⟩ | ⟨rfl, e⟩
    · rw [h4, e]
    · rw [h5, e]
  · rw [if_neg hj, List.getElem?_eq_none (by rw [pairsV_length]; omega)]
/-- 'clear' of a row's rest. -/
theorem run_clear_rowN {P : Program} (w : World) (t e : TypeId) (z : Value) (sz g o n c : Nat) (cur : Array Value) (tt : TypeId) (ht : P.underlying t = some (.slice e)) (hv : (zeroValue e).run P w = .ok z w) (hz : z.cells.size = sz) (h0 : 0 < sz) (h1 : ∀ u ∈ z.cells.toList, u.oneCell' = true) (hn : 0 < n)
    (hg : w.heap[g]? = some (.cells cur tt (0, 0))) (hfit : o + n * sz ≤ cur.size) :
    ∃ zs : List Value, zs.length = n * sz ∧ ∀ ty, (Builtin.clear_ #[t] ty #[.slice (some ⟨g, o, none⟩) n c]).run P w = .ok (.tuple #[]) (w.setRow g (cur.toList.take o ++ zs ++ cur.toList.drop (o + zs.length)).toArray) := by
  refine ⟨(Builtin.zeroCells z.cells n).toList, by simp [size_zeroCells, hz], fun ty => ?_⟩
  have hone : ∀ v ∈ (Builtin.zeroCells z.cells n).toList, v.oneCell' = true := by
    intro v hv'
    have hex : ∃ i, v = z.cells[i % z.cells.size]! := by
      simp [Builtin.zeroCells] at hv'
      obtain ⟨i, _, e⟩ := hv'
      exact ⟨i, by rw [← e]⟩
    obtain ⟨i, rfl⟩ := hex
    have hm : i % z.cells.size < z.cells.size := Nat.mod_lt _ (by omega)
    rw [getElem!_pos z.cells _ hm]
    exact h1 _ (by simp)
  have hst := run_storeCells_at (P := P) g o tt (Builtin.zeroCells z.cells n).toList 0 cur w hg (by simp [size_zeroCells, hz]; exact hfit) hone
  simp only [Nat.add_zero] at hst
  obtain ⟨m, rfl⟩ : ∃ m, n = m + 1 := ⟨n - 1, by omega⟩
  simp [Builtin.clear_, run_underlying ht, hv, hst]
theorem OwnRow.cleared {w : World} {g c i n : Nat} {ps : List Pr} {zs : List Value} (h : OwnRow w g c ps) (hz : zs.length = n * 2) (hfit : i * 2 + n * 2 ≤ c * 2) : ∃ C : Array Value, w.heap[g]? = some (.cells C 35 (0, 0)) ∧ C.size = c * 2 ∧ ∀ zs : List Value, zs.length = n * 2 → OwnRow (w.setRow g (C.toList.take (i * 2) ++ zs ++ C.toList.drop (i * 2 + zs.length)).toArray) g c (ps.take i) := by
  obtain ⟨C, h1, h2, h3⟩ := h
  refine ⟨C, h1, h2, fun zs hz => ⟨_, setRow_heap w g C _ 35 _ h1, ?_, fun k p hk => ?_⟩⟩
  · simp only [List.size_toArray, List.length_append, List.length_take, List.length_drop, Array.length_toList]
    omega
  · rw [List.getElem?_take] at hk
    split at hk
    · rename_i hki
      obtain ⟨a1, a2⟩ := h3 k p hk
      constructor
      · rw [List.getElem?_toArray, List.append_assoc, List.getElem?_append_left (by simp; omega), List.getElem?_take, if_pos (by omega), Array.getElem?_toList]; exact a1
      · rw [List.getElem?_toArray, List.append_assoc, List.getElem?_append_left (by simp; omega), List.getElem?_take, if_pos (by omega), Array.getElem?_toList]; exact a2
    · cases hk

/-! ### The search -/
def IdxTo (P : Pr → Bool) (ps : List Pr) (w : World) (e : Ending) (w' : World) : Prop :=
  ∃ z : Int, e = .returned (.int .i64 z) ∧ ((z = -1 ∧ ∀ p ∈ ps, P p = false) ∨ ∃ i : Nat, z = i ∧ i < ps.length ∧ (∀ p ∈ ps.take i, P p = false) ∧ ∃ p, ps[i]? = some p ∧ P p = true) ∧ Below w.heap.size w w'
def PredC (K : Nat) (cap : Value) (P : Pr → Bool) (ps : List Pr) (W : World) : Prop :=
  ∀ p ∈ ps, Calls Tryz.prog K #[.agg #[strV p.1, strV p.2], cap] W (fun e w' => e = .returned (.bool (P p)) ∧ Below W.heap.size W w')
theorem none_next {P : Pr → Bool} {ps : List Pr} {k : Nat} {p : Pr} (h : ∀ q ∈ ps.take k, P q = false) (hp : ps[k]? = some p) (hk : P p = false) : ∀ q ∈ ps.take (k + 1), P q = false := by
  intro q hq
  rw [List.take_add_one, hp] at hq
  rcases List.mem_append.1 hq with hq | hq
  · exact h q hq
  · simp at hq; subst hq; exact hk
set_option maxRecDepth 100000 in
set_option maxHeartbeats 1000000 in
theorem idx_any (K : Nat) (cap : Value) (P : Pr → Bool) (a : Option Addr) (c : Nat) (ps : List Pr) (w : World) (hE : ∀ args W, (callFunc K args).run Tryz.prog W = .ok (.enter K args) W) (hr : RdFl w a ps) (hn : ps.length ≤ 1000000) (hP : ∀ W, Below w.heap.size w W → PredC K cap P ps W) :
    Calls Tryz.prog 55 #[.slice a ps.length c, .func (.func K) #[] #[cap]] w (IdxTo P ps w) := by
  obtain ⟨n, hnn⟩ : ∃ n, n = ps.length := ⟨_, rfl⟩
  rw [← hnn] at hn ⊢
  have HR := Lib.hid hr; have HN := Lib.hid hnn; have HP := Lib.hid hP
  clear hr hnn hP
  go_enter Tryz.func55, Tryz.ntmps55
  go_wp2
  go_loopw [8] (fun x wr => ∃ k : Nat, k ≤ n ∧ x = .int .i64 k ∧ Hid (Below w.heap.size w wr) ∧ Hid (∀ q ∈ ps.take k, P q = false)) (fun x _ => n - (intOf x).toNat)
  case atStart => exact ⟨0, Nat.zero_le _, rfl, Below.refl _ w, fun q hq => by cases hq⟩
  case round =>
    obtain ⟨k, hk, rfl, hbw, hall⟩ := hrel
    by_cases hlt : k < n
    · obtain ⟨p, hp⟩ : ∃ p, ps[k]? = some p := ⟨_, List.getElem?_eq_getElem (by rw [← HN.out]; exact hlt)⟩
      obtain ⟨b, o, rfl, _, hcs⟩ := HR.out.below hbw.out (fun e => by rw [e] at hp; cases hp)
      obtain ⟨hc0, hc1⟩ := hcs k p hp
      have hG := HP.out wr hbw.out p (List.mem_of_getElem? hp)
      obtain ⟨S, hS⟩ : ∃ S : ByteArray, strV p.1 = .string S := ⟨_, rfl⟩
      obtain ⟨S2, hS2⟩ : ∃ S : ByteArray, strV p.2 = .string S := ⟨_, rfl⟩
      rw [hS, hS2] at hG
      rw [hS] at hc0; rw [hS2] at hc1
      have hPN : P p = true ∨ P p = false := by cases P p <;> simp
      have HP0 := Lib.hid hp
      clear hcs hp hS hS2
      rcases hPN with hb | hb
      · rw [hb] at hG
        have HG := Lib.hid hG; have HB := Lib.hid hb
        clear hG hb
        go_wp2_with fail
        refine HG.out.mono ?_
        rintro e w' ⟨rfl, h2⟩
        have H2 := Lib.hid (hbw.out.trans (h2.mono hbw.out.size)); clear h2
        go_wp2
        go_ret
        exact ⟨k, rfl, .inr ⟨k, rfl, by rw [← HN.out]; exact hlt, hall.out, p, HP0.out, HB.out⟩, H2.out⟩
      · rw [hb] at hG
        have HG := Lib.hid hG; have HB := Lib.hid hb
        clear hG hb
        go_wp2_with fail
        refine HG.out.mono ?_
        rintro e w' ⟨rfl, h2⟩
        have H2 := Lib.hid (hbw.out.trans (h2.mono hbw.out.size)); clear h2
        go_wp2
        go_roundw
        case rel => exact ⟨k + 1, hlt, by go_num, H2, none_next hall.out HP0.out HB.out⟩
        case measure => simp [intOf]; omega
    · have ha : ∀ p ∈ ps, P p = false := by
        have := hall.out
        rwa [List.take_of_length_le (by rw [← HN.out]; omega)] at this
      have HA := Lib.hid ha; clear ha
      go_wp2
      go_ret
      exact ⟨-1, rfl, .inl ⟨rfl, HA.out⟩, hbw.out⟩

/-! ### The walk -/
def DelTo (base : Nat) (a : Option Addr) (c : Nat) (qs : List Pr) (w : World) (e : Ending) (w' : World) : Prop :=
  e = .returned (.slice a qs.length c) ∧ OwnFl w' base a c qs ∧ Below base w w'
/-- Where the loop stands. -/
structure DelAt (ps qs : List Pr) (P : Pr → Bool) (i j : Nat) : Prop where
  len : qs.length = ps.length
  front : qs.take i = (ps.take j).filter fun p => !P p
  rest : ∀ t, j ≤ t → qs[t]? = ps[t]?
theorem DelAt.start {ps : List Pr} {P : Pr → Bool} {i : Nat} {p : Pr} (h : ∀ q ∈ ps.take i, P q = false) (hp : ps[i]? = some p) (hk : P p = true) : DelAt ps ps P i (i + 1) := by
  refine ⟨rfl, ?_, fun _ _ => rfl⟩
  rw [List.take_add_one, hp, List.filter_append, List.filter_eq_self.2 (fun q hq => by rw [h q hq]; rfl)]
  simp [hk]
theorem DelAt.drop {ps qs : List Pr} {P : Pr → Bool} {i j : Nat} {p : Pr} (h : DelAt ps qs P i j) (hp : ps[j]? = some p) (hk : P p = true) : DelAt ps qs P i (j + 1) := by
  refine ⟨h.len, ?_, fun t ht => h.rest t (by omega)⟩
  rw [List.take_add_one, hp, List.filter_append, ← h.front]
  simp [hk]
theorem DelAt.take {ps qs : List Pr} {P : Pr → Bool} {i j : Nat} {p : Pr} (h : DelAt ps qs P i j) (hij : i < j) (hp : ps[j]? = some p) (hk : P p = false) : DelAt ps (qs.set i p) P (i + 1) (j + 1) := by
  have hj := (List.getElem?_eq_some_iff.1 hp).1
  refine ⟨by simp [h.len], ?_, fun t ht => ?_⟩
  · rw [List.take_add_one (l := ps), hp, List.filter_append, ← h.front, List.take_add_one, List.getElem?_set_self (by rw [h.len]; omega)]
    rw [List.take_set_of_le (Nat.le_refl _)]
    simp [hk]
  · rw [List.getElem?_set_ne (by omega)]
    exact h.rest t (by omega)
theorem ch_below {g base : Nat} {w w' : World} (h : Ch [g] w w') (hg : base ≤ g) (hb : base ≤ w.heap.size) : Below base w w' :=
  ⟨h.os, h.tape, h.output, h.size, fun k hk => h.block k (by omega) (by simp; omega)⟩
set_option maxRecDepth 100000 in
set_option maxHeartbeats 4000000 in
theorem del_any (K : Nat) (cap : Value) (P : Pr → Bool) (base : Nat) (a : Option Addr) (c : Nat) (ps : List Pr) (w : World) (hE : ∀ args W, (callFunc K args).run Tryz.prog W = .ok (.enter K args) W) (ho : OwnFl w base a c ps) (hb : base ≤ w.heap.size) (hn : ps.length ≤ 1000000) (hP : ∀ g W, base ≤ g → Ch [g] w W → PredC K cap P ps W) :
    Calls Tryz.prog 30 #[.slice a ps.length c, .func (.func K) #[] #[cap]] w (DelTo base a c (ps.filter fun p => !P p) w) := by
  have hI := idx_any K cap P a c ps w hE (owns_rd ho) hn (fun W hW => hP w.heap.size W hb (Ch.of_below hW _))
  obtain ⟨n, hnn⟩ : ∃ n, n = ps.length := ⟨_, rfl⟩
  have hnl : n ≤ 1000000 := by omega
  rw [← hnn] at hI ⊢
  have HO := Lib.hid ho; have HN := Lib.hid hnn; have HP := Lib.hid hP; have HI := Lib.hid hI; have HB := Lib.hid hb
  clear ho hnn hP hI hn hb
  go_enter Tryz.func30, Tryz.ntmps30
  go_wp2_with fail
  refine HI.out.mono ?_
  rintro e w1 ⟨z, rfl, hz, h1⟩
  have H1 := Lib.hid h1
  clear h1
  rcases hz with ⟨rfl, hall⟩ | ⟨i, rfl, hin, hfr, p, hp, hpp⟩
  · have HF := Lib.hid (show (ps.filter fun p => !P p) = ps from List.filter_eq_self.2 (fun q hq => by rw [hall q hq]; rfl))
    clear hall
    go_wp2_with fail
    go_ret
    exact ⟨show Ending.returned (.slice a n c) = _ by rw [HF.out, ← HN.out], by rw [HF.out]; exact ownsRow_keep HO.out (fun g hg => H1.out.block g (owns_lt HO.out g hg)), H1.out.mono HB.out⟩
  · rcases OwnRow.of_owns HO.out with ⟨_, rfl, _⟩ | ⟨g, rfl, hg, hrow, hlc, hcm⟩
    · cases hp
    have hgl := hrow.fl.lt
    have hr1 := Lib.hid (hrow.keep (H1.out.block g hgl))
    have hst := Lib.hid (DelAt.start hfr hp hpp)
    have hch := Lib.hid (Ch.of_below H1.out [g])
    have hin2 : i < n := by rw [HN.out]; exact hin
    have hnc : n ≤ c := by rw [HN.out]; exact hlc
    have HG := Lib.hid hg
    clear hfr hp hpp hrow hlc hgl hin hg
    have hne : ((i : Int) == -1) = false := beq_eq_false_iff_ne.2 (by omega)
    go_wp2_with fail
    clear hne
    go_loopw [5, 6] (fun y x wr => ∃ (k j : Nat) (qs : List Pr), y = .int .i64 k ∧ x = .int .i64 j ∧ k < j ∧ j ≤ n ∧ Hid (DelAt ps qs P k j) ∧ Hid (OwnRow wr g c qs) ∧ Hid (Ch [g] w wr)) (fun _ x _ => n - (intOf x).toNat)
    case atStart => exact ⟨i, i + 1, ps, rfl, by go_num, by omega, by omega, hst, hr1, hch⟩
    case round =>
      obtain ⟨k, j, qs, rfl, rfl, hkj, hjn, hat, hrow, hcr⟩ := hrel
      by_cases hlt : j < n
      · obtain ⟨p, hp⟩ : ∃ p, ps[j]? = some p := ⟨_, List.getElem?_eq_getElem (by rw [← HN.out]; exact hlt)⟩
        have hq := (hat.out.rest j (Nat.le_refl _)).trans hp
        obtain ⟨q0, q1⟩ := hrow.out.fl.cell hq
        obtain ⟨S, hS⟩ : ∃ S : ByteArray, strV p.1 = .string S := ⟨_, rfl⟩
        obtain ⟨S2, hS2⟩ : ∃ S : ByteArray, strV p.2 = .string S := ⟨_, rfl⟩
        obtain ⟨w3, hw3, hb3, hfx, _, _⟩ := new_two wr (.string S) (.string S2) 35
        have hgl := hrow.out.fl.lt
        have hne1 : ¬ wr.heap.size = g := by omega
        have f0 := cell_of_heap hfx 0
        have f1 := cell_of_heap hfx 1
        have HFX := Lib.hid hfx
        have HC3 := Lib.hid (hcr.out.trans (Ch.of_below hb3 [g]) (by simp))
        have HR3 := Lib.hid (hrow.out.keep (hb3.block g hgl))
        have hG := HP.out g w3 HG.out HC3.out p (List.mem_of_getElem? hp)
        rw [hS, hS2] at hG
        rw [hS] at q0; rw [hS2] at q1
        have hPN : P p = true ∨ P p = false := by cases P p <;> simp
        have HP0 := Lib.hid hp; have HSS := Lib.hid (And.intro hS hS2)
        clear hp hq hS hS2 hfx hb3
        rcases hPN with hb | hb
        · rw [hb] at hG
          have HGG := Lib.hid hG; have HBB := Lib.hid hb
          clear hG hb
          go_wp2_with fail
          refine HGG.out.mono ?_
          rintro e w4 ⟨rfl, h4⟩
          have HC4 := Lib.hid (HC3.out.trans (Ch.of_below h4 [g]) (by simp))
          have HR4 := Lib.hid (HR3.out.keep (h4.block g HR3.out.fl.lt))
          clear h4 f0 f1
          go_wp2_with fail
          go_roundw
          case rel => exact ⟨k, j + 1, qs, rfl, by go_num, by omega, hlt, hat.out.drop HP0.out HBB.out, HR4, HC4⟩
          case measure => simp [intOf]; omega
        · rw [hb] at hG
          have HGG := Lib.hid hG; have HBB := Lib.hid hb
          clear hG hb
          go_wp2_with fail
          refine HGG.out.mono ?_
          rintro e w4 ⟨rfl, h4⟩
          have HC4 := Lib.hid (HC3.out.trans (Ch.of_below h4 [g]) (by simp))
          have HR4 := Lib.hid (HR3.out.keep (h4.block g HR3.out.fl.lt))
          have y0 := cell_of_heap ((h4.block _ (lt_of_heap HFX.out)).trans HFX.out) 0
          have y1 := cell_of_heap ((h4.block _ (lt_of_heap HFX.out)).trans HFX.out) 1
          have hkl : k < n := by omega
          have hput := HR4.out.put (k := k) (by rw [hat.out.len, ← HN.out]; omega) p
          rw [HSS.out.1, HSS.out.2] at hput
          have HPUT := Lib.hid hput
          have HCP := Lib.hid ((HC4.out.setCell (p := ⟨g, k * 2, none⟩) (.inl (by simp)) (.string S)).setCell (p := ⟨g, k * 2 + 1, none⟩) (.inl (by simp)) (.string S2))
          have hqk : ∃ p', qs[k]? = some p' := ⟨_, List.getElem?_eq_getElem (by rw [hat.out.len, ← HN.out]; omega)⟩
          obtain ⟨p', hp'⟩ := hqk
          obtain ⟨z0, z1⟩ := HR4.out.fl.cell hp'
          have fz := HR4.out.fl.frozen
          clear h4 f0 f1 hput hp'
          go_wp2_with fail
          go_roundw
          case rel => exact ⟨k + 1, j + 1, _, by go_num, by go_num, by omega, hlt, hat.out.take hkj HP0.out HBB.out, HPUT, HCP⟩
          case measure => simp [intOf]; omega
      · obtain rfl : j = n := by omega
        have hfr := hat.out.front
        rw [List.take_of_length_le (l := ps) (by rw [← HN.out]; exact Nat.le_refl _)] at hfr
        have hcc : ¬ c = k := by omega
        have hkl : k ≤ j := by omega
        have hkc : k ≤ c := by omega
        obtain ⟨zz, hzz⟩ : ∃ z : Value, (∀ W, (zeroValue 35).run Tryz.prog W = .ok z W) ∧ z.cells.size = 2 ∧ ∀ u ∈ z.cells.toList, u.oneCell' = true := ⟨.agg #[.string ByteArray.empty, .string ByteArray.empty], fun W => by kernel_rfl, rfl, by decide⟩
        obtain ⟨C, hC1, hC2, hC3⟩ := OwnRow.cleared (i := k) (n := j - k) (zs := List.replicate ((j - k) * 2) (.bool true)) hrow.out (by simp) (by omega)
        obtain ⟨zs, hzl, hclr⟩ := run_clear_rowN wr 22 35 zz 2 g (k * 2) (j - k) (c - k) C 35 Tryz.underlying22 (hzz.1 wr) hzz.2.1 (by omega) hzz.2.2 (by omega) hC1 (by omega)
        have hrw := hC3 zs hzl
        obtain ⟨W', hW'⟩ : ∃ W', W' = wr.setRow g (C.toList.take (k * 2) ++ zs ++ C.toList.drop (k * 2 + zs.length)).toArray := ⟨_, rfl⟩
        have hcw : Ch [g] w W' := by rw [hW']; exact hcr.out.trans (T := [g]) ⟨rfl, rfl, rfl, by simp, fun x _ hx => setRow_other wr g x _ (fun e => hx (by simp [e]))⟩ (by simp)
        rw [← hW'] at hclr hrw
        have hlen : (ps.filter fun p => !P p).length = k := by rw [← hfr, List.length_take, hat.out.len, ← HN.out]; omega
        rw [hfr] at hrw
        have HEND := Lib.hid (show OwnFl W' base (some ⟨g, 0, none⟩) c (ps.filter fun p => !P p) from hrw.owns HG.out (by rw [hlen]; exact hkc) hcm)
        have HBE := Lib.hid (ch_below hcw HG.out HB.out)
        have HLEN := Lib.hid hlen
        clear hfr hzz hC1 hC2 hC3 hzl hrw hcw hlen hW' hat hrow hcr
        go_wp2_with fail
        go_ret
        exact ⟨show Ending.returned (.slice (some ⟨g, 0, none⟩) k c) = _ by rw [HLEN.out], HEND.out, HBE.out⟩
end Go.Proofs.YtjcimajkjnjdpabGreatDoor
