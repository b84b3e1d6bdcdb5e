/- DERIVED. A range over a function, entered plainly; the reference's Leaves. -/
import Derived.Test.YtnekmmknjhflgaaDoorSexpEach
namespace Go.Proofs.YtnekmmknjhflgaaDoor
open Go.RowKit Go.Shelf
set_option linter.unusedVariables false
attribute [local go_sem] Oper.semAt_some

theorem calls_of_wp_marks {P : Program} {f : FuncId} {fn : Func} {c : Code} {args : Array Value} {w : World} {R : Ending → World → Prop} (hf : P.funcs[f]? = some fn) (hb : fn.body = some c)
    (h : c.wp P (bodyPostM Fence.wide 3 P fn R) { tmps := args ++ Array.replicate (fn.ntmps - args.size) undef, defers := [] } w) : Calls P f args w R :=
  (callsIn_wide (n := 3)).1 (callsIn_of_wp_marks hf hb trivial (wpIn_wide.2 h) rfl)
theorem marks_ret0 {P : Program} {fn : Func} {R : Ending → World → Prop} {a : Act} {w : World} {v : Value} (h : (results fn a.tmps).run P w = .ok v w) (hd : a.defers = []) (hR : R (.returned v) w) : bodyPostM Fence.wide 3 P fn R .ret a w := by
  show LeavesInM _ _ _ _ _ _ a.defers .returning w
  rw [hd]
  exact ⟨v, h, hR⟩
theorem marks_ret1 {P : Program} {fn : Func} {R : Ending → World → Prop} {a : Act} {w : World} {v : Value} {D : Nat} (hd : a.defers = [{ target := .collected D, args := #[] }]) (hK : w.heap[D]? = some (.deferred (some [])))
    (h : (results fn a.tmps).run P (w.putObj D (.deferred none)) = .ok v (w.putObj D (.deferred none))) (hR : R (.returned v) (w.putObj D (.deferred none))) : bodyPostM Fence.wide 3 P fn R .ret a w := by
  show LeavesInM _ _ _ _ _ _ a.defers .returning w
  rw [hd]
  exact ⟨by simp, .inl ⟨D, _, rfl, run_takeDeferred hK, v, h, hR⟩⟩
mutual
theorem leaves_few : ∀ (t : T) (L : Int), 0 ≤ countT L t → ((leavesT t).length : Int) ≤ L - countT L t
  | .mk l a ks, L, h => by
    unfold leavesT
    unfold countT at h ⊢
    have h1 := leavess_few ks _ h
    have h2 := countsT_le ks (L - 1 - a.length)
    split
    · simp; omega
    · omega
theorem leavess_few : ∀ (ks : List T) (L : Int), 0 ≤ countsT L ks → ((leavesTs ks).length : Int) ≤ L - countsT L ks
  | [], L, h => by unfold leavesTs countsT; simp
  | k :: ks, L, h => by
    unfold leavesTs
    unfold countsT at h ⊢
    split at h
    · rename_i h0
      rw [if_pos h0]
      have h1 := leavess_few ks _ h
      have h2 := countsT_le ks (countT L k)
      have h3 := leaves_few k L (by omega)
      simp; omega
    · omega
end
theorem leaves_len {t : T} (h : greatT t = false) : (leavesT t).length ≤ 131072 := by
  unfold greatT at h
  simp only [Bool.or_eq_false_iff, decide_eq_false_iff_not] at h
  have := leaves_few t 131072 (by omega)
  omega
theorem strsV_append (xs ys : List (List UInt8)) : strsV (xs ++ ys) = strsV xs ++ strsV ys := by simp [strsV]
/-- What the reference's Leaves answers. -/
def LvTo (w : World) (t : T) (e : Ending) (w' : World) : Prop :=
  ∃ a c, e = .returned (.slice a (leavesT t).length c) ∧ Rd w' (.slice a (leavesT t).length c) (strsV (leavesT t)) ∧ Below w.heap.size w w'
theorem one_rd (w : World) (x : Value) (t : TypeId) : Rd (w.alloc (.cells #[x] t)) (.slice (some ⟨w.heap.size, 0, none⟩) 1 1) [x] := by
  refine ⟨_, 1, rfl, Nat.le_refl _, (fun h => (Option.some_ne_none _ h).elim), fun ad e => ?_⟩
  obtain rfl := Option.some.inj e
  intro j u hj
  rw [Addr.add_lit, Nat.zero_add, cell_of_heap (heap_alloc_new w _)]
  simpa using hj
set_option maxRecDepth 100000 in
set_option maxHeartbeats 4000000 in
theorem rleaves_any : ∀ (m : Nat) (t : T), SizeOf.sizeOf t ≤ m → (leavesT t).length ≤ 1000000 → ∀ (w : World) (v0 v1 v2 : Value), NodeAt w t v0 v1 v2 →
    Calls Tryd.prog 16 #[.agg #[v0, v1, v2]] w (LvTo w t) := by
  intro m
  induction m with
  | zero => intro t ht; exact absurd ht (by cases t; simp)
  | succ m ih =>
    intro t ht hfew w v0 v1 v2 hn
    obtain ⟨l, at_, ks⟩ := t
    obtain ⟨rfl, rfl, ha, hk, a, c, rfl, hc, hm, hkids⟩ := hn.open
    simp only [T.leaf, T.atom, T.kids] at ha hk hc hkids ⊢
    have hsub : ∀ k ∈ ks, SizeOf.sizeOf k ≤ m := fun k hk => by have := kid_size (l := l) (a := at_) hk; omega
    obtain ⟨S, hS⟩ : ∃ S : ByteArray, strV at_ = Value.string S := ⟨⟨at_.toArray⟩, rfl⟩
    rw [hS]
    obtain ⟨n, hnn⟩ : ∃ n, n = ks.length := ⟨_, rfl⟩
    rw [← hnn] at hk hc ⊢
    obtain ⟨i9, hi9, hz0, hz1, hz2⟩ := info_parts info9
    obtain ⟨c0, c1, c2⟩ := box_cells w (.bool l) (.string S) (.slice a n c)
    have hb1 : Below w.heap.size w (w.alloc (.cells #[.bool l, .string S, .slice a n c] 24)) := (Below.refl _ w).alloc (Nat.le_refl _) _
    obtain ⟨w1, hw1⟩ : ∃ w1, w.alloc (.cells #[.bool l, .string S, .slice a n c] 24) = w1 := ⟨_, rfl⟩
    rw [hw1] at hb1 c0 c1 c2
    have HB1 := Lib.hid hb1; have HSUB := Lib.hid hsub; have HIH := Lib.hid ih; have HK := Lib.hid hkids; have HN := Lib.hid hnn; have HS := Lib.hid hS
    cases l
    · have hl : leavesT (.mk false at_ ks) = leavesTs ks := by unfold leavesT; simp
      have HL := Lib.hid hl
      rw [hl] at hfew
      clear hb1 hsub ih hkids hnn hn ht hS hl
      go_enter Tryd.func16, Tryd.ntmps16
      go_wp2_with fail
      clear c0 c1 c2
      go_loopw [3, 14] (fun x i wr => ∃ (k : Nat) (av : Option Addr) (m cv : Nat), x = .slice av m cv ∧ i = .int .i64 k ∧ k ≤ n ∧ m = (leavesTs (ks.take k)).length ∧ Hid (wr.ownsRow w1.heap.size 9 1 (.slice av m cv) m (strsV (leavesTs (ks.take k)))) ∧ Hid (Below w1.heap.size w1 wr)) (fun _ i _ => n - (intOf i).toNat)
      case atStart => exact ⟨0, none, 0, 0, rfl, rfl, Nat.zero_le _, by rw [List.take_zero]; unfold leavesTs; rfl, by rw [List.take_zero]; unfold leavesTs; exact World.ownsRow_nil _ _ _ _, Below.refl _ w1⟩
      case round =>
        obtain ⟨k, av, mm, cv, rfl, rfl, hkn, hmm, hown, hbr⟩ := hrel
        by_cases hlt : k < n
        · obtain ⟨t, ht⟩ : ∃ t, ks[k]? = some t := ⟨_, List.getElem?_eq_getElem (by rw [← HN.out]; exact hlt)⟩
          obtain ⟨bb, o, u0, u1, u2, rfl, d0, d1, d2, hnt⟩ := HK.out k t ht
          have hbwr : Below w.heap.size w wr := HB1.out.trans (hbr.out.mono HB1.out.size)
          replace d0 := below_keeps hbwr _ _ d0
          replace d1 := below_keeps hbwr _ _ d1
          replace d2 := below_keeps hbwr _ _ d2
          have hnr := hnt.below hbwr
          have hlen : (leavesTs (ks.take k)).length + (leavesT t).length ≤ 1000000 := by
            rw [leaves_split ks (k + 1), leaves_take ht] at hfew
            simp at hfew; omega
          have hC := HIH.out t (HSUB.out t (List.mem_of_getElem? ht)) (by omega)
          have htk := leaves_take ht
          obtain ⟨j0, j1, j2, j3, j4, rfl, rfl, rfl⟩ := hnt.form
          obtain ⟨e0, e1, e2⟩ := box_cells wr (.bool j0) (.string j1) (.slice j2 j3 j4)
          have hb3 : Below wr.heap.size wr (wr.alloc (.cells #[.bool j0, .string j1, .slice j2 j3 j4] 24)) := (Below.refl _ wr).alloc (Nat.le_refl _) _
          obtain ⟨w3, hw3⟩ : ∃ w3, wr.alloc (.cells #[.bool j0, .string j1, .slice j2 j3 j4] 24) = w3 := ⟨_, rfl⟩
          rw [hw3] at hb3 e0 e1 e2
          have HC3 := Lib.hid (hC w3 _ _ _ (hnr.below hb3))
          have HB3 := Lib.hid hb3; have HTK := Lib.hid htk
          obtain ⟨xs, hxs⟩ : ∃ xs, xs = leavesTs (ks.take k) := ⟨_, rfl⟩
          obtain ⟨ys, hys⟩ : ∃ ys, ys = leavesT t := ⟨_, rfl⟩
          unfold LvTo at HC3
          rw [← hxs] at hmm hown HTK hlen
          rw [← hys] at HC3 HTK hlen
          obtain ⟨q, hq⟩ : ∃ q, q = ys.length := ⟨_, rfl⟩
          rw [← hq, ← hmm] at hlen
          rw [← hq] at HC3
          have HM := Lib.hid hmm; have HQ := Lib.hid hq
          clear hC hnt hnr ht hbwr hb3 htk hxs hys hmm hq
          go_wp2_with fail
          refine HC3.out.mono ?_
          rintro e w5 ⟨a5, c5, rfl, hrd, hb5⟩
          have hb35 := HB3.out.trans (hb5.mono HB3.out.size)
          have HOWN5 := Lib.hid (ownsRow_keep hown.out (fun g hg => hb35.block g (owns_lt hown.out g hg)))
          have HB5 := Lib.hid (hbr.out.trans (hb35.mono hbr.out.size))
          have HSRC := Lib.hid (show Src Tryd.prog 1 35 (.slice a5 q c5) q (strsV ys) w5 from by
            have := hrd.src (P := Tryd.prog) Tryd.underlying35 (strsV_one ys)
            rwa [strsV_length, ← HQ.out] at this)
          clear hrd hb5 hb35
          go_wp2_with (first | (at_builtin; refine wpList_append_srcs rfl (.tmp 18) (.tmp 20) 35 35 rfl w1.heap.size 9 i9 (.string ByteArray.empty) 1 16 Tryd.underlying35 hi9 hz0 hz1 hz2 rfl (by decide) _ rfl _ _ HOWN5.out _ rfl _ _ HSRC.out (by unfold maxLen; omega) (by omega) HB5.out.size ?_; intro a' c' w6 hown6 hgrow _ hblk; have HG := Lib.hid (((Ch.of_below HB5.out []).grown hgrow (fun k hk => .inr (owns_ge HOWN5.out k hk))).below); have HO := Lib.hid hown6; clear hown6 hgrow hblk) | fail)
          go_roundw
          case rel =>
            refine ⟨k + 1, a', mm + q, c', rfl, by go_num, hlt, ?_, ?_, HG⟩
            · rw [HTK.out, List.length_append, HM.out, HQ.out]
            · rw [HTK.out, strsV_append]; exact HO
          case measure => simp [intOf]; omega
        · obtain rfl : k = n := by omega
          go_wp2_with fail
          go_ret
          have hall : ks.take k = ks := List.take_of_length_le (by rw [← HN.out]; exact Nat.le_refl _)
          rw [hall] at hmm hown
          subst hmm
          have hr := Rd.of_owns hown.out
          unfold LvTo
          rw [HL.out]
          exact ⟨av, cv, rfl, hr, HB1.out.trans (hbr.out.mono HB1.out.size)⟩
    · have hl : leavesT (.mk true at_ ks) = [at_] := by unfold leavesT; simp
      have HL := Lib.hid hl
      clear hb1 hsub ih hkids hnn hn ht hS hl hfew
      go_enter Tryd.func16, Tryd.ntmps16
      go_wp2_with fail
      go_ret
      unfold LvTo
      rw [HL.out]
      refine ⟨_, _, rfl, ?_, HB1.out.alloc HB1.out.size _⟩
      unfold strsV
      rw [List.map_cons, List.map_nil, HS.out]
      exact one_rd w1 _ _
end Go.Proofs.YtnekmmknjhflgaaDoor
