/- DERIVED. each, as an iterator over a node's texts. -/
import Derived.RangeFuncNested
import Derived.RangeFuncBound
import Derived.RangeFuncCalls
import Derived.RangeFuncLeaves
import Derived.Shelf.Abstract
import Derived.Shelf.RegionOpen
import Derived.OwnWalkIn
import Derived.TacticsInMore
import Derived.LoopNIn
import Derived.LoopIn
import Derived.Test.YtnekmmknjhflgaaDoorSexpCopyW
namespace Go.Proofs.YtnekmmknjhflgaaDoor
open Go.RowKit Go.Shelf
set_option linter.unusedVariables false
attribute [local go_sem] Oper.semAt_some

mutual
def leavesT : T → List (List UInt8)
  | .mk l a ks => if l then [a] else leavesTs ks
def leavesTs : List T → List (List UInt8)
  | [] => []
  | k :: ks => leavesT k ++ leavesTs ks
end
theorem leaves_snoc (ks : List T) (t : T) : leavesTs (ks ++ [t]) = leavesTs ks ++ leavesT t := by
  induction ks with
  | nil => simp [leavesTs]
  | cons k ks ih => simp [leavesTs, ih]
theorem leaves_take {ks : List T} {k : Nat} {t : T} (h : ks[k]? = some t) : leavesTs (ks.take (k + 1)) = leavesTs (ks.take k) ++ leavesT t := by
  obtain ⟨hk, rfl⟩ := List.getElem?_eq_some_iff.1 h
  rw [List.take_succ_eq_append_getElem hk, leaves_snoc]
theorem leaves_split (ks : List T) (k : Nat) : leavesTs ks = leavesTs (ks.take k) ++ leavesTs (ks.drop k) := by
  induction ks generalizing k with
  | nil => simp [leavesTs]
  | cons x ks ih =>
    cases k with
    | zero => simp [leavesTs]
    | succ k => simp only [List.take_succ_cons, List.drop_succ_cons, leavesTs]; rw [ih k, List.append_assoc]
def encS (s : List UInt8) : Array Value := #[strV s]
/-- What 'each' leaves: all texts were given, or it was stopped. -/
def EachTo (J Jx : List (List UInt8) → World → Prop) (w0 : World) (all : List (List UInt8)) (e : Ending) (W : World) : Prop :=
  (e = .returned (.bool true) ∧ J all W ∧ Below w0.heap.size w0 W) ∨ (e = .returned (.bool false) ∧ ∃ pre, pre <+: all ∧ Jx pre W)
theorem yield_wide {m m' : Nat} {P : Program} {l : Nat} {args : Array Value} {W : World} {R : Ending → World → Prop} (h : YieldAt Fence.wide m P l args W R) : YieldAt Fence.wide m' P l args W R := by
  obtain ⟨fn, tmps, assign, body, h1, h2⟩ := h
  exact ⟨fn, tmps, assign, body, h1, h2.1, fun c cs _ => h2.2 c cs (room_wide _)⟩
set_option maxRecDepth 100000 in
set_option maxHeartbeats 4000000 in
theorem each_any (l : Nat) (J Jx : List (List UInt8) → World → Prop) (w0 : World) (B N : Nat) (hJ : AbidesFrom B J)
    (hY : ∀ pre x W1, J pre W1 → pre.length < N → YieldAt Fence.wide 0 Tryd.prog l (encS x) W1 fun e W' => (e = .returned (.bool true) ∧ J (pre ++ [x]) W' ∧ Below w0.heap.size W1 W') ∨ (e = .returned (.bool false) ∧ Jx (pre ++ [x]) W')) :
    ∀ (m : Nat) (t : T), SizeOf.sizeOf t ≤ m → ∀ (pre : List (List UInt8)) (W : World) (v0 v1 v2 : Value), pre.length + (leavesT t).length ≤ N → NodeAt w0 t v0 v1 v2 → Below w0.heap.size w0 W → J pre W →
      CallsIn Fence.wide 1 Tryd.prog 30 #[.agg #[v0, v1, v2], .func (.yield l) #[] #[]] W (EachTo J Jx w0 (pre ++ leavesT t)) := by
  intro m
  induction m with
  | zero => intro t ht; exact absurd ht (by cases t; simp)
  | succ m ih =>
    intro t ht pre W v0 v1 v2 hN hn hb hj
    obtain ⟨lf, at_, ks⟩ := t
    obtain ⟨rfl, rfl, ha, hk, a, c, rfl, hc, hm, hkids⟩ := hn.open
    simp only [T.leaf, T.atom, T.kids] at ha hk hc hkids ⊢
    have hsub : ∀ k ∈ ks, SizeOf.sizeOf k ≤ m := fun k hk => by have := kid_size (l := lf) (a := at_) hk; omega
    obtain ⟨S, hS⟩ : ∃ S : ByteArray, strV at_ = .string S := ⟨_, rfl⟩
    rw [hS]
    obtain ⟨n, hnn⟩ : ∃ n, n = ks.length := ⟨_, rfl⟩
    rw [← hnn] at hk hc ⊢
    obtain ⟨c0, c1, c2⟩ := box_cells W (.bool lf) (.string S) (.slice a n c)
    have hb1 : Below w0.heap.size w0 (W.alloc (.cells #[.bool lf, .string S, .slice a n c] 24)) := hb.alloc hb.size _
    have hj1 : J pre (W.alloc (.cells #[.bool lf, .string S, .slice a n c] 24)) := hJ _ _ _ none hj (World.grownBy_alloc W _ none) (fun r e => by cases e)
    obtain ⟨w1, hw1⟩ : ∃ w1, W.alloc (.cells #[.bool lf, .string S, .slice a n c] 24) = w1 := ⟨_, rfl⟩
    rw [hw1] at hb1 hj1 c0 c1 c2
    have HJ := Lib.hid hJ; have HY := Lib.hid hY; have HIH := Lib.hid ih; have HB1 := Lib.hid hb1; have HJ1 := Lib.hid hj1; have HSUB := Lib.hid hsub; have HK := Lib.hid hkids; have HN := Lib.hid hnn; have HS := Lib.hid hS
    have HLB : Hid (∀ b, b < w0.heap.size → b ≠ W.heap.size) := Lib.hid (fun b hb' => by have := hb.size; omega)
    cases lf
    · have hl : leavesT (.mk false at_ ks) = leavesTs ks := by unfold leavesT; simp
      rw [hl] at hN ⊢
      clear hJ hY ih hb1 hj1 hsub hkids hnn hS hn ht hb hj hl
      refine callsIn_of_wp Tryd.func30 rfl trivial ?_ rfl
      simp only [Tryd.ntmps30, List.size_toArray, List.length_cons, List.length_nil, Nat.reduceAdd, Nat.reduceSub, Array.replicate_succ, Array.replicate_zero, List.push_toArray, List.append_toArray, List.nil_append, List.cons_append]
      gi_wp2
      clear c0 c1 c2
      gi_loopw [16] (fun i wr => ∃ k : Nat, k ≤ n ∧ i = .int .i64 k ∧ Hid (J (pre ++ leavesTs (ks.take k)) wr) ∧ Hid (Below w0.heap.size w0 wr)) (fun i _ => n - (intOf i).toNat)
      case atStart => exact ⟨0, Nat.zero_le _, rfl, by rw [List.take_zero]; unfold leavesTs; rw [List.append_nil]; exact HJ1.out, HB1.out⟩
      case round =>
        obtain ⟨k, hkn, rfl, hjk, hbk⟩ := hrel
        by_cases hlt : k < n
        · obtain ⟨t, ht⟩ : ∃ t, ks[k]? = some t := ⟨_, List.getElem?_eq_getElem (by rw [← HN.out]; exact hlt)⟩
          obtain ⟨bb, o, u0, u1, u2, rfl, d0, d1, d2, hnt⟩ := HK.out k t ht
          replace d0 := below_keeps hbk.out _ _ d0
          replace d1 := below_keeps hbk.out _ _ d1
          replace d2 := below_keeps hbk.out _ _ d2
          have htk := leaves_take ht
          have hsp := leaves_split ks (k + 1)
          have hlen : (pre ++ leavesTs (ks.take k)).length + (leavesT t).length ≤ N := by
            rw [hsp, htk] at hN
            simp at hN ⊢; omega
          have hih := HIH.out t (HSUB.out t (List.mem_of_getElem? ht)) (pre ++ leavesTs (ks.take k))
          obtain ⟨j0, j1, j2, j3, j4, rfl, rfl, rfl⟩ := hnt.form
          have hcall := hih (wr.alloc (.cells #[.bool j0, .string j1, .slice j2 j3 j4] 24)) _ _ _ hlen hnt (hbk.out.alloc hbk.out.size _) (HJ.out _ _ _ none hjk.out (World.grownBy_alloc wr _ none) (fun r e => by cases e))
          rw [List.append_assoc, ← htk] at hcall
          have hcall0 := (callsIn_wide (n := 0)).2 ((callsIn_wide (n := 1)).1 hcall)
          obtain ⟨e0, e1, e2⟩ := box_cells wr (.bool j0) (.string j1) (.slice j2 j3 j4)
          have HPRE : Hid (pre ++ leavesTs (ks.take (k + 1)) <+: pre ++ leavesTs ks) := Lib.hid (by
            rw [hsp, ← List.append_assoc]; exact List.prefix_append _ _)
          obtain ⟨w3, hw3⟩ : ∃ w3, wr.alloc (.cells #[.bool j0, .string j1, .slice j2 j3 j4] 24) = w3 := ⟨_, rfl⟩
          rw [hw3] at hcall0 e0 e1 e2
          have HCALL := Lib.hid hcall0
          clear hih hcall hcall0 hnt ht htk hsp hlen
          gi_wp2
          refine ⟨trivial, ?_⟩
          refine HCALL.out.mono ?_
          rintro e w4 (⟨rfl, hj4, hb4⟩ | ⟨rfl, pre', hp', hjx⟩)
          · have HJ4 := Lib.hid hj4; have HB4 := Lib.hid hb4; clear hj4 hb4 e0 e1 e2
            gi_wp2
            go_roundw
            case rel => exact ⟨k + 1, hlt, by go_num, HJ4, HB4⟩
            case measure => simp [intOf]; omega
          · have HX := Lib.hid (And.intro hp' hjx); clear hp' hjx e0 e1 e2
            gi_wp2
            go_ret
            exact .inr ⟨rfl, pre', HX.out.1.trans HPRE.out, HX.out.2⟩
        · obtain rfl : k = n := by omega
          gi_wp2
          go_ret
          have := hjk.out
          rw [List.take_of_length_le (by rw [← HN.out]; exact Nat.le_refl _)] at this
          exact .inl ⟨rfl, this, hbk.out⟩
    · have hl : leavesT (.mk true at_ ks) = [at_] := by unfold leavesT; simp
      rw [hl] at hN ⊢
      obtain ⟨fn, tmps, assign, body, hy, hR⟩ := hY pre at_ w1 hj1 (by simp at hN; omega)
      unfold encS at hy
      rw [hS] at hy
      have HR := Lib.hid hR
      clear hJ hY ih hb1 hj1 hsub hkids hnn hS hn ht hb hj hl hR
      refine callsIn_of_wp Tryd.func30 rfl trivial ?_ rfl
      simp only [Tryd.ntmps30, List.size_toArray, List.length_cons, List.length_nil, Nat.reduceAdd, Nat.reduceSub, Array.replicate_succ, Array.replicate_zero, List.push_toArray, List.append_toArray, List.nil_append, List.cons_append]
      gi_wp2
      refine HR.out.mono ?_
      rintro e W3 (⟨rfl, hJ3, hk3⟩ | ⟨rfl, hJx3⟩)
      · have H3 := Lib.hid hJ3; have HK3 := Lib.hid (HB1.out.trans hk3); clear hJ3 hk3
        gi_wp2
        go_ret
        exact .inl ⟨rfl, H3.out, HK3.out⟩
      · have H3 := Lib.hid hJx3; clear hJx3
        gi_wp2
        go_ret
        exact .inr ⟨rfl, _, List.prefix_refl _, H3.out⟩
/-- Leaves gives a node's texts, in their order. -/
theorem leaves_stops (n C : Nat) (t : T) (v0 v1 v2 : Value) (w0 w : World) (hn : 1 ≤ n) (hC : w.heap[C]? = some (.cells #[v0, v1, v2] 24 (0, 0))) (ht : NodeAt w0 t v0 v1 v2) (hb0 : Below w0.heap.size w0 w) :
    SeqStopsK Fence.wide n Tryd.prog 29 #[.pointer (some ⟨C, 0, none⟩)] encS (Below w0.heap.size) (fun ys => ys = leavesT t) (fun pre => pre <+: leavesT t) (leavesT t).length w := by
  intro l J Jx W hW hJ hJx hY h0
  have hC' := (hW.block C (lt_of_heap hC)).trans hC
  have c0 := cell_of_heap hC' 0
  have c1 := cell_of_heap hC' 1
  have c2 := cell_of_heap hC' 2
  have hE := each_any l J Jx w0 W.heap.size (leavesT t).length hJ (fun pre x W1 h1 h2 => yield_wide (hY pre x W1 h1 h2)) (SizeOf.sizeOf t) t (Nat.le_refl _) [] W v0 v1 v2 (by simp) ht (hb0.trans (hW.mono hb0.size)) h0
  rw [List.nil_append] at hE
  obtain ⟨lf, sx, a, m, c, rfl, rfl, rfl⟩ := ht.form
  have HE := Lib.hid ((callsIn_wide (n := n - 1)).2 ((callsIn_wide (n := 1)).1 hE))
  clear hE hC hC' hW hJ hJx hY h0 ht
  refine callsIn_of_wp Tryd.func29 rfl trivial ?_ rfl
  simp only [Tryd.ntmps29, List.size_toArray, List.length_cons, List.length_nil, Nat.reduceAdd, Nat.reduceSub, Array.replicate_succ, Array.replicate_zero, List.push_toArray, List.append_toArray, List.nil_append, List.cons_append]
  gi_wp2
  refine ⟨trivial, ?_⟩
  refine HE.out.mono ?_
  rintro e w4 (⟨rfl, hj4, hb4⟩ | ⟨rfl, pre', hp', hjx⟩)
  · gi_wp2
    go_end0
    exact ⟨⟨_, rfl⟩, .inl ⟨_, rfl, hj4⟩⟩
  · gi_wp2
    go_end0
    exact ⟨⟨_, rfl⟩, .inr ⟨pre', hp', hjx⟩⟩
end Go.Proofs.YtnekmmknjhflgaaDoor
