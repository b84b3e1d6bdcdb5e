/- DERIVED. Memory, continued: strings of slices. -/
import Derived.Test.YtjcimajkjnjdpabGreatDoorMBase
import Derived.Laws.IdiomStrings
import Derived.Deep.Draws
import Derived.Test.YtjcimajkjnjdpabGreatDoorRows
import Derived.ProofKit
import Derived.OpenShut
namespace Go.Proofs.YtjcimajkjnjdpabGreatDoor
open Go.RowKit Go.ChangeShapes Go.WideShapes

/-- 'string(b)' of a slice that reads as bytes. -/
theorem conv_rd {P : Program} {w : World} {src dst e : TypeId} (hs : P.underlying src = some (.slice e)) (he : P.underlying e = some (.int .u8)) (hd : P.underlying dst = some .string) {v : Value} {l : List UInt8} (h : Rd w v (bytesV l)) :
    (convert src dst v).run P w = .ok (.string ⟨l.toArray⟩) w := by
  obtain ⟨a, cap, rfl, h1, h2, h3⟩ := h
  rw [bytesV_length]
  cases a with
  | none =>
    obtain rfl := h2 rfl
    have hl : l = [] := List.eq_nil_of_length_eq_zero (by rw [bytesV_length] at h1; omega)
    subst hl
    show (convert src dst (.slice none 0 0)).run P w = _
    rw [run_convert_bytes_string w src dst e none 0 0 hs he hd]
    rfl
  | some ad =>
    exact run_convert_bytes_back w src dst e ad cap l hs he hd (fun j hj => h3 ad rfl j _ (by simp [bytesV, List.getElem?_eq_getElem hj]))

theorem rd_two (w : World) (x y : UInt8) (t : TypeId) (fr : Nat × Nat) : Rd (w.alloc (.cells #[.int .u8 x.toNat, .int .u8 y.toNat] t fr)) (.slice (some ⟨w.heap.size, 0, none⟩) 2 2) (bytesV [x, y]) := by
  refine ⟨some ⟨w.heap.size, 0, none⟩, 2, rfl, Nat.le_refl _, fun h => (Option.some_ne_none _ h).elim, fun ad e => ?_⟩
  obtain rfl := Option.some.inj e
  intro j u hj
  rw [Addr.add_lit, cell_of_heap (heap_alloc_new w _), Nat.zero_add]
  rw [← List.getElem?_toArray] at hj
  exact hj

/-- A slice of bytes that came in. -/
theorem rd_of_row {w : World} {a : Option Addr} {len cap : Nat} {zs : List Int}
    (h : (a = none ∧ len = 0 ∧ cap = 0 ∧ zs = []) ∨ ∃ x, a = some x ∧ len ≤ cap ∧ cap ≤ maxLen ∧ zs.length = cap ∧ (∀ i, i < zs.length → w.cell? (x.add i) = some (.int .u8 (zs.getD i 0))) ∧ ∀ n ∈ zs, (Lit.int .u8 n).wf = true) :
    ∃ l : List UInt8, l.length = len ∧ Rd w (.slice a len cap) (bytesV l) := by
  rcases h with ⟨rfl, rfl, rfl, rfl⟩ | ⟨x, rfl, hl, hm, hz, hc, hw⟩
  · exact ⟨[], rfl, Rd.nil w⟩
  · have hlen : (zs.take len).length = len := by rw [List.length_take]; omega
    have hbyte : ∀ n ∈ zs, ((UInt8.ofNat n.toNat).toNat : Int) = n := by
      intro n hn
      have hb : 0 ≤ n ∧ n ≤ 255 := by simpa [Lit.wf, IntKind.min, IntKind.max, IntKind.bits, IntKind.signed] using hw n hn
      simp; omega
    have e : bytesV ((zs.take len).map fun n => UInt8.ofNat n.toNat) = (zs.take len).map fun n => Value.int .u8 n := by
      unfold bytesV
      rw [List.map_map]
      apply List.map_congr_left
      intro n hn
      show Value.int .u8 ((UInt8.ofNat n.toNat).toNat : Int) = _
      rw [hbyte n (List.mem_of_mem_take hn)]
    refine ⟨(zs.take len).map fun n => UInt8.ofNat n.toNat, by rw [List.length_map, hlen], ?_⟩
    rw [e]
    refine ⟨some x, cap, by rw [List.length_map, hlen], by rw [List.length_map, hlen]; exact hl, fun h => (Option.some_ne_none _ h).elim, fun ad ea => ?_⟩
    obtain rfl := Option.some.inj ea
    intro j u hj
    rw [List.getElem?_map, List.getElem?_take] at hj
    split at hj
    · rename_i hjl
      have hjz : j < zs.length := by omega
      rw [hc j hjz]
      simp [List.getElem?_eq_getElem hjz] at hj
      rw [← hj]
      simp [List.getD, List.getElem?_eq_getElem hjz]
    · cases hj
theorem rd_of_trod {H : Type} {enc : TypeId × Value → H} {w : World} {a : Option Addr} {len cap : Nat} {d : DataW H} {p : List MemPlace} (h : DataW.Trod enc Tryz.prog w 0 (fun _ => true) true 80 (.slice a len cap) d p) :
    ∃ l : List UInt8, l.length = len ∧ Rd w (.slice a len cap) (bytesV l) := by
  obtain ⟨fuel, hf⟩ := h
  rcases open_ints Tryz.underlying80 Tryz.underlying5 (by kernel_rfl) hf with ⟨hcs, _⟩ | ⟨x, l, c, zs, hcs, _, hl, hm, hz, _, hcell, hwz⟩
  · simp [Value.cells] at hcs
    obtain ⟨rfl, rfl, rfl⟩ := hcs
    exact rd_of_row (zs := []) (.inl ⟨rfl, rfl, rfl, rfl⟩)
  · simp [Value.cells] at hcs
    obtain ⟨rfl, rfl, rfl⟩ := hcs
    exact rd_of_row (zs := zs) (.inr ⟨_, rfl, hl, hm, by simpa using hz, hcell, hwz⟩)
theorem owns_some {w : World} {base n : Nat} {a : Option Addr} {c : Nat} {xs : List Value} {e : TypeId} {size : Nat} (h : w.ownsRow base e size (.slice a n c) n xs) (hn : ¬ (Value.slice a n c = .slice none 0 0)) : ∃ M, a = some ⟨M, 0, none⟩ ∧ base ≤ M ∧ M < w.heap.size := by
  rcases h.2 with ⟨e, _⟩ | ⟨g, cap, cur, e, hb, hg, _⟩
  · exact absurd e hn
  · obtain ⟨e1, _, _⟩ := Value.slice.inj e
    exact ⟨g, e1, hb, lt_of_heap hg⟩
theorem mem_info5 : (Tryz.prog.info? 5).map (fun i => (i.zero, i.size, i.bytes)) = some (some (.int .u8 0), 1, 1) := by kernel_rfl
/-- 'append([]byte{}, x...)': a copy in new memory. -/
theorem run_copy_bytes (W : World) (ax : Option Addr) (cx : Nat) (l : List UInt8) (h : Rd W (.slice ax l.length cx) (bytesV l)) (hl : l.length ≤ 140737488355328) (ty : TypeId) (n : Nat) :
    ∃ M c w', (Builtin.append_ #[80, 80] ty #[.slice (some ⟨W.heap.size, 0, none⟩) 0 0, .slice ax l.length cx]).run Tryz.prog ((W.alloc (.cells #[] 5)).drewN n) = .ok (.slice (some ⟨M, 0, none⟩) l.length c) w' ∧
      w'.ownsRow W.heap.size 5 1 (.slice (some ⟨M, 0, none⟩) l.length c) l.length (bytesV l) ∧ W.heap.size ≤ M ∧ M < w'.heap.size ∧ Below W.heap.size W w' := by
  obtain ⟨i0, hi, hz0, hz1, hz2⟩ := info_parts mem_info5
  have hb : Below W.heap.size W ((W.alloc (.cells #[] 5)).drewN n) := by
    have := (Below.refl W.heap.size W).alloc (Nat.le_refl _) (.cells #[] 5)
    exact ⟨this.os, this.tape, this.output, this.size, this.block⟩
  have hsrc := (h.below hb).src (P := Tryz.prog) Tryz.underlying80 (bytesV_one _)
  rw [bytesV_length] at hsrc
  obtain ⟨v', w', hr, hown, hgrow, hnil, _⟩ := run_append_srcs (P := Tryz.prog) ((W.alloc (.cells #[] 5)).drewN n) W.heap.size 80 80 ty 5 i0 (.int .u8 0) 1 1 Tryz.underlying80 hi hz0 hz1 hz2 rfl (by decide) _ 0 [] (owns_empty W 5) _ _ _ hsrc (by unfold maxLen; omega) (by omega) hb.size
  rw [Nat.zero_add, List.nil_append] at hown
  obtain ⟨a', c', rfl⟩ := owns_form hown
  obtain ⟨M, rfl, h1, h2⟩ := owns_some hown (fun e => by have := (hnil.1 e).1; cases this)
  exact ⟨M, c', w', hr, hown, h1, h2, hb.grown hgrow hb.size (fun k e => Nat.le_of_eq (show W.heap.size = k from Option.some.inj e))⟩
theorem wpList_copy_bytes {ops : Array Oper} {rest : List Oper} {o : Oper} {a : Act} {Q : Exit → Act → World → Prop} (hgd : o.guard = none) (s x : Operand)
    (ho : o.op = .call { callee := .builtin .append, args := #[s, x], argTypes := #[80, 80] })
    (W : World) (n : Nat) (ax : Option Addr) (cx : Nat) (l : List UInt8) (hv : a.eval s = .slice (some ⟨W.heap.size, 0, none⟩) 0 0) (hy : a.eval x = .slice ax l.length cx) (hr : Rd W (.slice ax l.length cx) (bytesV l)) (hl : l.length ≤ 140737488355328)
    (h : ∀ M c w', w'.ownsRow W.heap.size 5 1 (.slice (some ⟨M, 0, none⟩) l.length c) l.length (bytesV l) → W.heap.size ≤ M → M < w'.heap.size → Below W.heap.size W w' → wpList Tryz.prog ops Q rest (a.put o.dst (.slice (some ⟨M, 0, none⟩) l.length c)) w') :
    wpList Tryz.prog ops Q (o :: rest) a ((W.alloc (.cells #[] 5)).drewN n) := by
  refine wpList_plain hgd fun K hK => ?_
  obtain ⟨M, c, w', hrun, h1, h2, h3, h4⟩ := run_copy_bytes W ax cx l hr hl o.type n
  unfold Oper.wp execOp
  simp only [ho, resolve, invoke, builtin, Sem.run_bind, Sem.run_pure, Result.andThen_ok, List.map_toArray, List.map_cons, List.map_nil, hv, hy, hrun]
  exact hK _ _ (h M c w' h1 h2 h3 h4)
theorem wpList_copy_bytes0 {ops : Array Oper} {rest : List Oper} {o : Oper} {a : Act} {Q : Exit → Act → World → Prop} (hgd : o.guard = none) (s x : Operand)
    (ho : o.op = .call { callee := .builtin .append, args := #[s, x], argTypes := #[80, 80] })
    (W : World) (ax : Option Addr) (cx : Nat) (l : List UInt8) (hv : a.eval s = .slice (some ⟨W.heap.size, 0, none⟩) 0 0) (hy : a.eval x = .slice ax l.length cx) (hr : Rd W (.slice ax l.length cx) (bytesV l)) (hl : l.length ≤ 140737488355328)
    (h : ∀ M c w', w'.ownsRow W.heap.size 5 1 (.slice (some ⟨M, 0, none⟩) l.length c) l.length (bytesV l) → W.heap.size ≤ M → M < w'.heap.size → Below W.heap.size W w' → wpList Tryz.prog ops Q rest (a.put o.dst (.slice (some ⟨M, 0, none⟩) l.length c)) w') :
    wpList Tryz.prog ops Q (o :: rest) a (W.alloc (.cells #[] 5)) := wpList_copy_bytes hgd s x ho W 0 ax cx l hv hy hr hl h

theorem step_copy_bytes {ops : Array Oper} {o : Oper} {a : Act} {w0 : World} {K : Act → World → Prop} {Q : Exit → Act → World → Prop} {E : Prop} (hg : o.guard = none) (s x : Operand)
    (hop : o.op = Op.call { callee := Callee.builtin Builtin.append, args := #[s, x], argTypes := #[80, 80] })
    (W : World) (n : Nat) (hw : w0 = (W.alloc (.cells #[] 5)).drewN n) (ax : Option Addr) (cx : Nat) (l : List UInt8) (hv : a.eval s = .slice (some ⟨W.heap.size, 0, none⟩) 0 0) (hy : a.eval x = .slice ax l.length cx) (hr : Rd W (.slice ax l.length cx) (bytesV l)) (hl : l.length ≤ 140737488355328)
    (hK : ∀ M c w', w'.ownsRow W.heap.size 5 1 (.slice (some ⟨M, 0, none⟩) l.length c) l.length (bytesV l) → W.heap.size ≤ M → M < w'.heap.size → Below W.heap.size W w' → K (a.put o.dst (.slice (some ⟨M, 0, none⟩) l.length c)) w') :
    if Region.wanted o (yielded ops a.tmps) = true then Oper.wp Tryz.prog o a w0 K Q else E := by
  subst hw
  have hw : Region.wanted o (yielded ops a.tmps) = true := by simp [Region.wanted, hg]
  rw [if_pos hw]
  obtain ⟨M, c, w', hrun, h1, h2, h3, h4⟩ := run_copy_bytes W ax cx l hr hl o.type n
  unfold Oper.wp
  simp [execOp, hop, resolve, invoke, builtin, hv, hy, hrun, Result.andThen]
  exact hK M c w' h1 h2 h3 h4
end Go.Proofs.YtjcimajkjnjdpabGreatDoor
