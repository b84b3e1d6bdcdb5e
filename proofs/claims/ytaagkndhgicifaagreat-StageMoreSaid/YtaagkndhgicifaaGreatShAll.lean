/- DERIVED. A shelf's pairs from the least key up (All), at names and at numbers: the function values and the iterators over them. -/
import Derived.Test.YtaagkndhgicifaaGreatSv07
import Derived.Test.YtaagkndhgicifaaGreatRngE
namespace Go.Proofs.YtaagkndhgicifaaGreat
open Go.RowKit Go.Shelf
set_option linter.unusedVariables false
set_option linter.unusedSimpArgs false
set_option maxRecDepth 100000
attribute [local go_sem] Oper.semAt_some

set_option maxHeartbeats 2000000 in
theorem allI_any (w : World) (S : Nat) (v : Value) (ps : List (KV Int)) (h : ShIAt w S v ps) (hl : ps.length ≤ 1000000) :
    Calls Tryz.prog 80 #[.pointer (some ⟨S, 0, none⟩)] w (OverTo w ps) := by
  have HC := Lib.hid (clonep_any w S v ps h hl)
  obtain ⟨a, c, rfl⟩ := owns_form h.row
  have k0 := cell_of_heap h.cells 0
  clear h
  go_enter Tryz.func80, Tryz.ntmps80
  go_wp2_with fail
  refine HC.out.mono ?_
  rintro e w1 ⟨v', rfl, h1, h2⟩
  obtain ⟨a', c', rfl⟩ := owns_form h1
  have H1 := Lib.hid h1; have H2 := Lib.hid h2; clear h1 h2 k0
  go_wp2_with fail
  refine (overI_any w1 _ a' ps.length c' rfl).mono ?_
  rintro e w3 ⟨rfl, e3⟩
  have E3 := Lib.hid e3; clear e3
  go_wp2_with fail
  go_ret
  have hb : Below w1.heap.size w1 w3 := by rw [E3.out]; exact (Below.refl _ w1).alloc (Nat.le_refl _) _
  have hC : w3.heap[w1.heap.size]? = some (.cells #[.slice a' ps.length c'] 182 (0, 0)) := by rw [E3.out]; exact heap_alloc_new w1 _
  have hrow : w3.ownsRow w.heap.size 185 10 (.slice a' ps.length c') ps.length (rowsV kInt ps) := by rw [E3.out]; exact World.ownsRow.alloc H1.out _
  exact ⟨w1.heap.size, a', c', rfl, hC, hrow, H2.out.size, H2.out.trans (hb.mono H2.out.size)⟩

/-- Names and their shelves. -/
def ptrV (p : KV (List UInt8)) : Value := p.2.headD (.pointer none)
def encS (p : KV (List UInt8)) : Array Value := #[strV p.1, ptrV p]
def CloneS (w : World) (ps : List (KV (List UInt8))) (e : Ending) (w' : World) : Prop := ∃ v', e = .returned v' ∧ w'.ownsRow w.heap.size 180 2 v' ps.length (rowsV kStr ps) ∧ Below w.heap.size w w'
theorem src_rowsS {w : World} {S : Nat} {v : Value} {ps : List (KV (List UInt8))} (h : ShSAt w S v ps) (hl : ps.length ≤ 1000000) : Src Tryz.prog 2 153 v ps.length (rowsV kStr ps) w := by
  obtain ⟨a, c, rfl, hb, hc⟩ := owns_shape h.row (by omega)
  cases a with
  | none =>
    obtain ⟨e1, rfl⟩ := hb.nil rfl
    obtain rfl : ps = [] := List.eq_nil_of_length_eq_zero e1
    exact Src.ofNil w Tryz.underlying153 0
  | some ad =>
    refine Src.ofSlice w Tryz.underlying153 ad ps.length c (rowsV kStr ps) (rowsV_length kStr h.wid) (fun j u hj => ?_) (rowsV_one kStr h.wid)
    have hne : ps.length ≠ 0 := fun e => by
      obtain rfl := List.eq_nil_of_length_eq_zero e
      simp [rowsV] at hj
    obtain ⟨g, e, _, _, h3⟩ := hc hne
    obtain rfl := Option.some.inj e
    rw [Addr.add_lit, Nat.zero_add]
    exact h3 j u hj
set_option maxHeartbeats 1000000 in
theorem clones_any (w : World) (S : Nat) (v : Value) (ps : List (KV (List UInt8))) (h : ShSAt w S v ps) (hl : ps.length ≤ 1000000) :
    Calls Tryz.prog 121 #[v] w (CloneS w ps) := by
  have hq := fun (w : World) (a : Option Addr) (n c : Nat) => Lib.run_eql_slice_nil (P := Tryz.prog) w 153 180 a n c 0 0 Tryz.underlying153
  obtain ⟨a, c, rfl, hb, -⟩ := owns_shape h.row (by omega)
  cases a with
  | none =>
    obtain ⟨h1, rfl⟩ := hb.nil rfl
    obtain rfl : ps = [] := List.eq_nil_of_length_eq_zero h1
    clear h hb h1
    go_enter Tryz.func121, Tryz.ntmps121
    go_wp2
    go_ret
    exact ⟨.slice none 0 0, rfl, World.ownsRow_nil _ _ _ _, Below.refl _ _⟩
  | some ad =>
    have hb1 : Below w.heap.size w (w.alloc (.cells #[] 180)) := (Below.refl _ w).alloc (Nat.le_refl _) _
    have hsrc := src_rowsS (h.below hb1) hl
    obtain ⟨i0, hi, hz0, hz1, hz2⟩ := info_parts infoPairS
    have HB1 := Lib.hid hb1; have HL := Lib.hid hl
    obtain ⟨n, hn⟩ : ∃ n, n = ps.length := ⟨_, rfl⟩
    rw [← hn] at hsrc hl ⊢
    unfold CloneS
    rw [← hn]
    have HN := Lib.hid hn
    clear h hb1 hb hn
    go_enter Tryz.func121, Tryz.ntmps121
    go_wp2_with (at_builtin; refine wpList_append_srcs rfl (.tmp 5) (.tmp 6) 153 153 rfl w.heap.size 180 i0 _ 2 24 Tryz.underlying153 hi hz0 hz1 hz2 rfl (by decide) (.slice (some ⟨w.heap.size, 0, none⟩) 0 0) rfl 0 [] (owns_none w 180 2 (by decide)) (.slice (some ad) n c) rfl _ _ hsrc (by unfold maxLen; omega) (by omega) (by simp) ?_; intro a' c' w' hown hgrow hnil _; simp only [Nat.zero_add, List.nil_append] at hown)
    go_wp2
    go_ret
    exact ⟨_, rfl, hown, HB1.out.grown hgrow HB1.out.size (fun k e => Nat.le_of_eq (show w.heap.size = k from Option.some.inj e))⟩
theorem overS_any (w : World) (v : Value) (a : Option Addr) (l c : Nat) (hv : v = .slice a l c) :
    Calls Tryz.prog 120 #[v] w fun e w' => e = .returned (.func (.func 152) #[] #[.pointer (some ⟨w.heap.size, 0, none⟩)]) ∧ w' = w.alloc (.cells #[v] 153) := by
  subst hv
  go_enter Tryz.func120, Tryz.ntmps120
  go_wp2
  go_ret
  exact ⟨rfl, rfl⟩
/-- A function value over names and shelves in new memory. -/
def OverToS (w : World) (ps : List (KV (List UInt8))) (e : Ending) (w' : World) : Prop :=
  ∃ C a c, e = .returned (.func (.func 152) #[] #[.pointer (some ⟨C, 0, none⟩)]) ∧ w'.heap[C]? = some (.cells #[.slice a ps.length c] 153 (0, 0)) ∧ w'.ownsRow w.heap.size 180 2 (.slice a ps.length c) ps.length (rowsV kStr ps) ∧ w.heap.size ≤ C ∧ Below w.heap.size w w'
set_option maxHeartbeats 2000000 in
theorem allS_any (w : World) (S : Nat) (v : Value) (ps : List (KV (List UInt8))) (h : ShSAt w S v ps) (hl : ps.length ≤ 1000000) :
    Calls Tryz.prog 79 #[.pointer (some ⟨S, 0, none⟩)] w (OverToS w ps) := by
  have HC := Lib.hid (clones_any w S v ps h hl)
  obtain ⟨a, c, rfl⟩ := owns_form h.row
  have k0 := cell_of_heap h.cells 0
  clear h
  go_enter Tryz.func79, Tryz.ntmps79
  go_wp2_with fail
  refine HC.out.mono ?_
  rintro e w1 ⟨v', rfl, h1, h2⟩
  obtain ⟨a', c', rfl⟩ := owns_form h1
  have H1 := Lib.hid h1; have H2 := Lib.hid h2; clear h1 h2 k0
  go_wp2_with fail
  refine (overS_any w1 _ a' ps.length c' rfl).mono ?_
  rintro e w3 ⟨rfl, e3⟩
  have E3 := Lib.hid e3; clear e3
  go_wp2_with fail
  go_ret
  have hb : Below w1.heap.size w1 w3 := by rw [E3.out]; exact (Below.refl _ w1).alloc (Nat.le_refl _) _
  have hC : w3.heap[w1.heap.size]? = some (.cells #[.slice a' ps.length c'] 153 (0, 0)) := by rw [E3.out]; exact heap_alloc_new w1 _
  have hrow : w3.ownsRow w.heap.size 180 2 (.slice a' ps.length c') ps.length (rowsV kStr ps) := by rw [E3.out]; exact World.ownsRow.alloc H1.out _
  exact ⟨w1.heap.size, a', c', rfl, hC, hrow, H2.out.size, H2.out.trans (hb.mono H2.out.size)⟩
set_option maxHeartbeats 4000000 in
theorem overS_stops (n C : Nat) (c : Nat) (a : Option Addr) (ps : List (KV (List UInt8))) (w : World) (X : Nat → Obj → Prop) (hn : 1 ≤ n) (hl : ps.length ≤ 1000000) (hw : WidK 2 ps) (hsh : ∀ p ∈ ps, ∃ s, p.2 = [.pointer (some ⟨s, 0, none⟩)]) (hC : w.heap[C]? = some (.cells #[.slice a ps.length c] 153 (0, 0))) (base : Nat) (hr : w.ownsRow base 180 2 (.slice a ps.length c) ps.length (rowsV kStr ps)) (hg : ∀ b c f, ¬ X b (.cells c 180 f)) :
    StopsO n Tryz.prog 152 #[.pointer (some ⟨C, 0, none⟩)] encS X (fun ys => ys = ps) (fun pre => pre <+: ps) w := by
  intro l J Jx W hW hJ hJx hY h0
  have hC' := cell_of_heap ((hW.block C (lt_of_heap hC)).trans hC) 0
  have HW := Lib.hid hw; have HSH := Lib.hid hsh
  have hrow : ps ≠ [] → ∃ b cur, a = some ⟨b, 0, none⟩ ∧ W.heap[b]? = some (.cells cur 180 (0, 0)) := by
    intro hne
    rcases hr.2 with ⟨_, e2⟩ | ⟨g, cap, cur, e1, _, hgb, _⟩
    · exact absurd (List.eq_nil_of_length_eq_zero e2) hne
    · obtain ⟨rfl, _, _⟩ := Value.slice.inj e1
      exact ⟨g, cur, rfl, (hW.block g (lt_of_heap hgb)).trans hgb⟩
  have HROW := Lib.hid hrow
  have HR := Lib.hid ((RdK.of_owns hw (by decide) hr).below hW); have HJ := Lib.hid hJ; have HG := Lib.hid hg
  clear hC hr hW hJ hJx hg hw hsh hrow
  refine callsIn_of_wp Tryz.func152 rfl trivial ?_ rfl
  simp only [Tryz.ntmps152, List.size_toArray, List.length_cons, List.length_nil, Nat.reduceAdd, Nat.reduceSub, Array.replicate_succ, Array.replicate_zero, List.push_toArray, List.append_toArray, List.nil_append, List.cons_append]
  gi_wp2
  gi_loopw [7] (fun i wr => ∃ k : Nat, k ≤ ps.length ∧ i = .int .i64 k ∧ Hid (J (ps.take k) wr) ∧ Hid (∀ b, a = some ⟨b, 0, none⟩ → ps ≠ [] → wr.heap[b]? = W.heap[b]?)) (fun i _ => ps.length - (intOf i).toNat)
  case atStart => exact ⟨0, Nat.zero_le _, rfl, h0, fun _ _ _ => rfl⟩
  case round =>
    obtain ⟨k, hk, rfl, hJs, hnx⟩ := hrel
    by_cases hlt : k < ps.length
    · have hne : ps ≠ [] := by intro e; rw [e] at hlt; exact absurd hlt (Nat.not_lt_zero _)
      obtain ⟨b, rfl, hb, hc⟩ := HR.out hne
      obtain ⟨p, hp⟩ : ∃ p, ps[k]? = some p := ⟨_, List.getElem?_eq_getElem hlt⟩
      have hpre : ps.take k ++ [p] <+: ps := by
        have : ps.take (k + 1) = ps.take k ++ [p] := by rw [List.take_add_one, hp]; rfl
        rw [← this]
        exact List.take_prefix _ _
      obtain ⟨sq, hval⟩ := HSH.out p (List.mem_of_getElem? hp)
      have HPRE := Lib.hid hpre; have HP := Lib.hid hp
      have hblk := hnx.out b rfl hne
      have keep : ∀ j u, (rowV kStr p)[j]? = some u → wr.cell? ⟨b, k * 2 + j, none⟩ = some u := fun j u hj => (World.cell?_of_block (a := ⟨b, k * 2 + j, none⟩) hblk).trans (hc k p hp j u hj)
      obtain ⟨pk, pl⟩ := p
      dsimp only at hval
      subst hval
      obtain ⟨T, -, hT, -, -⟩ := strV_is pk
      have c0 : wr.cell? ⟨b, k * 2, none⟩ = some (.string T) := by rw [← hT]; exact keep 0 _ rfl
      have c1 : wr.cell? ⟨b, k * 2 + 1, none⟩ = some (.pointer (some ⟨sq, 0, none⟩)) := keep 1 _ rfl
      obtain ⟨b2, cur, eb, hob⟩ := HROW.out hne
      obtain rfl : b = b2 := by injection eb with eb; injection eb
      have hbw : b < wr.heap.size := cell_lt c0
      have hJa : J (ps.take k) (wr.alloc (.cells #[.string T, .pointer (some ⟨sq, 0, none⟩)] 180)) := OwnFrom.alloc HJ.out _ hJs.out
      have HBL := Lib.hid hblk; have HNE := Lib.hid hne; have HOB := Lib.hid hob
      obtain ⟨fn, tmps, assign, body, hy, hR⟩ := hY (ps.take k) _ _ hJa HPRE.out
      unfold encS ptrV at hy
      dsimp only [List.headD] at hy
      rw [hT] at hy
      clear hc hblk hp hJa hne keep hob hpre eb hT
      gi_wp2
      refine hR.mono ?_
      rintro e W3 (⟨rfl, hJ3, hk3⟩ | ⟨rfl, hJx3, -⟩)
      · have HJ3 := Lib.hid hJ3; have HK3 := Lib.hid hk3; clear hJ3 hk3
        gi_wp2
        go_roundw
        case rel =>
          refine ⟨k + 1, by omega, by go_num, ?_, fun b' e' hne => ?_⟩
          · rw [List.take_add_one, HP.out]; exact HJ3.out
          · have ho1 := HBL.out.trans HOB.out
            obtain rfl : b = b' := by injection e' with e'; injection e'
            have h1 : (wr.alloc (.cells #[.string T, .pointer (some ⟨sq, 0, none⟩)] 180)).heap[b]? = some (.cells cur 180 (0, 0)) := (Below.heap_alloc wr _ b hbw).trans ho1
            have h2 := HK3.out.cells b _ h1 rfl (HG.out b cur (0, 0))
            rw [h2, HOB.out]
        case measure => simp [intOf]; omega
      · have HJX := Lib.hid hJx3; clear hJx3
        gi_wp2
        refine bodyPost_ret (results_none rfl _ _ _) rfl ?_
        exact ⟨⟨_, rfl⟩, .inr ⟨_, HPRE.out, HJX.out⟩⟩
    · obtain rfl : k = ps.length := by omega
      gi_wp2
      go_end0
      have := hJs.out
      rw [List.take_length] at this
      exact ⟨⟨_, rfl⟩, .inl ⟨_, rfl, this⟩⟩
theorem enters_overS : ∀ (args : Array Value) (w : World), (callFunc 152 args).run Tryz.prog w = .ok (.enter 152 args) w := enters_of Tryz.func152 (by kernel_rfl) rfl
end Go.Proofs.YtaagkndhgicifaaGreat
