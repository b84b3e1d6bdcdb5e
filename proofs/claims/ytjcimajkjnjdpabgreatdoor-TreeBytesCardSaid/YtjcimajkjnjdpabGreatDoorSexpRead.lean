/- DERIVED. The reader's node. -/
import Derived.Test.YtjcimajkjnjdpabGreatDoorSexpMade
namespace Go.Proofs.YtjcimajkjnjdpabGreatDoor
open Go.RowKit
set_option linter.unusedVariables false

theorem textT_err5 {s : List UInt8} {f : Int} (h : textT s = .error f) : f = 5 := by
  unfold textT at h
  split at h
  · exact (Except.error.inj h).symm
  · split at h
    · cases h
    · exact (Except.error.inj h).symm
theorem takesT_errs {g : List UInt8 → Except Int (T × List UInt8)} (hg : ∀ s f, g s = .error f → f = 4 ∨ f = 5) : ∀ (n : Nat) (s : List UInt8) (f : Int), takesT g n s = .error f → f = 4 ∨ f = 5
  | 0, [], f, h => .inr (Except.error.inj h).symm
  | n + 1, [], f, h => .inr (Except.error.inj h).symm
  | 0, c :: s, f, h => .inr (Except.error.inj h).symm
  | n + 1, c :: s, f, h => by
    unfold takesT at h
    split at h
    · cases h
    · split at h
      · rename_i e he; exact hg _ _ (by rw [he, Except.error.inj h])
      · rename_i t r he
        split at h
        · rename_i e h2; exact takesT_errs hg n r f (by rw [h2, Except.error.inj h])
        · cases h
theorem takeT_errs : ∀ (m : Nat) (s : List UInt8) (f : Int), takeT m s = .error f → f = 4 ∨ f = 5
  | 0, [], f, h => .inr (Except.error.inj h).symm
  | m + 1, [], f, h => .inr (Except.error.inj h).symm
  | 0, c :: s, f, h => by
    unfold takeT at h
    split at h
    · exact .inl (Except.error.inj h).symm
    · exact .inr (textT_err5 h)
  | m + 1, c :: s, f, h => by
    unfold takeT at h
    split at h
    · split at h
      · rename_i e he; exact takesT_errs (takeT_errs m) _ s f (by rw [he, Except.error.inj h])
      · cases h
    · exact .inr (textT_err5 h)
def NodeRd (w : World) (W : Nat) (S : ByteArray) (d : Nat) : Except Int (T × List UInt8) → Ending → World → Prop
  | .ok (t, r), e, w' => ∃ v0 v1 v2 G, e = .returned (.agg #[v0, v1, v2]) ∧ RdAt W S (S.size - r.length) 0 w' ∧ Ch [W] w w' ∧ Made w w' d G t v0 v1 v2
  | .error f, e, w' => e = .returned (.agg #[.bool false, .string ⟨#[]⟩, .slice none 0 0]) ∧ (∃ a, RdAt W S a f w') ∧ Ch [W] w w'
/-- An atom, stored as the result. -/
theorem NodeRd.atom {w w1 w' : World} {W d : Nat} {S : ByteArray} {s : List UInt8} {e : Ending} (hb1 : Below w.heap.size w w1) (hl : s.length ≤ 65536) (h : AtomTo w1 W S (textT s) e w') (hd : d ≤ 32) :
    ∃ lf sx, e = .returned (.agg #[.bool lf, .string sx, .slice none 0 0]) ∧ Ch [W] w1 w' ∧ ∀ W', (∀ g, g < w.heap.size → W'.heap[g]? = w'.heap[g]?) → w'.heap.size ≤ W'.heap.size → W'.os = w'.os → W'.tape = w'.tape → W'.output = w'.output → W < w.heap.size → NodeRd w W S d (textT s) (.returned (.agg #[.bool lf, .string sx, .slice none 0 0])) W' := by
  have key : ∀ (W' : World), Ch [W] w1 w' → (∀ g, g < w.heap.size → W'.heap[g]? = w'.heap[g]?) → w'.heap.size ≤ W'.heap.size → W'.os = w'.os → W'.tape = w'.tape → W'.output = w'.output → Ch [W] w W' := fun W' hc k1 k2 k3 k4 k5 => by
    have h1 : Ch [W] w w' := (Ch.of_below hb1 _).trans hc (fun x hx => .inl hx)
    exact ⟨k3.trans h1.os, k4.trans h1.tape, k5.trans h1.output, Nat.le_trans h1.size k2, fun k hk hn => (k1 k hk).trans (h1.block k hk hn)⟩
  cases ht : textT s with
  | error f =>
    rw [ht] at h
    obtain ⟨rfl, ⟨a, ha⟩, hc⟩ := h
    exact ⟨_, _, rfl, hc, fun W' k1 k2 k3 k4 k5 hW => ⟨rfl, ⟨a, (k1 W hW).trans ha⟩, key W' hc k1 k2 k3 k4 k5⟩⟩
  | ok p =>
    obtain ⟨t, r⟩ := p
    rw [ht] at h
    obtain ⟨a, rfl, hs⟩ := textT_inv ht
    obtain ⟨rfl, ha, hc⟩ := h
    refine ⟨_, _, rfl, hc, fun W' k1 k2 k3 k4 k5 hW => ⟨_, _, _, fun _ _ _ => False, rfl, (k1 W hW).trans ha, key W' hc k1 k2 k3 k4 k5, fun _ _ _ h => h.elim, fun _ _ _ h => h.elim, ?_⟩⟩
    unfold NodeG
    have := atomB_len a
    rw [hs, List.length_append] at hl
    exact ⟨rfl, rfl, by omega, Nat.zero_le _, .inl ⟨rfl, rfl⟩⟩
theorem takesT_le {g : List UInt8 → Except Int (T × List UInt8)} (hg : ∀ s t r, g s = .ok (t, r) → r.length ≤ s.length) : ∀ (n : Nat) (s : List UInt8) (ts : List T) (r : List UInt8), takesT g n s = .ok (ts, r) → r.length ≤ s.length
  | 0, [], ts, r, h => by cases h
  | n + 1, [], ts, r, h => by cases h
  | 0, c :: s, ts, r, h => by cases h
  | n + 1, c :: s, ts, r, h => by
    unfold takesT at h
    split at h
    · obtain ⟨rfl, rfl⟩ := Prod.mk.inj (Except.ok.inj h); simp
    · split at h
      · cases h
      · rename_i t r1 h1
        split at h
        · cases h
        · rename_i ts2 r2 h2
          obtain ⟨rfl, rfl⟩ := Prod.mk.inj (Except.ok.inj h)
          have k1 := hg _ _ _ h1
          have k2 := takesT_le hg n _ _ _ h2
          omega
/-- The list that was read. -/
def boxT : Except Int (List T × List UInt8) → Except Int (T × List UInt8)
  | .error e => .error e
  | .ok (ts, r) => .ok (.mk false [] ts, r)
theorem takeT_list (m : Nat) (r : List UInt8) : takeT (m + 1) (40 :: r) = boxT (takesT (takeT m) r.length r) := by
  conv => lhs; unfold takeT
  rw [if_pos rfl]
  cases takesT (takeT m) r.length r with
  | error e => rfl
  | ok p => rfl
/-- What was read, ahead of what is still to be read. -/
def joinT (ts : List T) : Except Int (List T × List UInt8) → Except Int (List T × List UInt8)
  | .error e => .error e
  | .ok (us, r) => .ok (ts ++ us, r)
theorem joinT_step {f : List UInt8 → Except Int (T × List UInt8)} {n : Nat} {c : UInt8} {s r : List UInt8} {ts : List T} {t : T} (hc : c ≠ 41) (h : f (c :: s) = .ok (t, r)) : joinT ts (takesT f (n + 1) (c :: s)) = joinT (ts ++ [t]) (takesT f n r) := by
  conv => lhs; unfold takesT
  rw [if_neg hc, h]
  dsimp only
  cases takesT f n r with
  | error e => rfl
  | ok p => obtain ⟨us, r2⟩ := p; simp [joinT]
theorem joinT_err {f : List UInt8 → Except Int (T × List UInt8)} {n : Nat} {c : UInt8} {s : List UInt8} {ts : List T} {e : Int} (hc : c ≠ 41) (h : f (c :: s) = .error e) : joinT ts (takesT f (n + 1) (c :: s)) = .error e := by
  conv => lhs; unfold takesT
  rw [if_neg hc, h]
  rfl
theorem takeT_len {m d : Nat} (hm : d + m = 32) {s r : List UInt8} {t : T} (h : takeT m s = .ok (t, r)) : ∃ k, 1 ≤ k ∧ k + r.length = s.length ∧ r = s.drop k := by
  obtain ⟨_, h2⟩ := takeT_inv m d hm s t r h
  obtain ⟨c, l, h3, _⟩ := catT_ne t
  refine ⟨(catT t).length, by rw [h3]; simp, by rw [h2, List.length_append], by rw [h2, List.drop_left]⟩
theorem nodeInfo : (Tryz.prog.info? 50).map (fun i => (i.zero, i.size, i.bytes)) = some (some (.agg #[.bool false, .string ⟨#[]⟩, .slice none 0 0]), 3, 48) := by kernel_rfl
theorem node_src (w : World) (v0 v1 v2 : Value) (n : Nat) (h0 : v0.oneCell' = true) (h1 : v1.oneCell' = true) (h2 : v2.oneCell' = true) : Src Tryz.prog 3 48 (.slice (some ⟨w.heap.size, 0, none⟩) 1 1) 1 [v0, v1, v2] ((w.alloc (.cells #[v0, v1, v2] 50)).drewN n) := by
  refine Src.ofSlice _ Tryz.underlying48 ⟨w.heap.size, 0, none⟩ 1 1 [v0, v1, v2] rfl (fun j u hj => ?_) (by simp [h0, h1, h2])
  have hh : ((w.alloc (.cells #[v0, v1, v2] 50)).drewN n).heap[w.heap.size]? = some (.cells #[v0, v1, v2] 50 (0, 0)) := heap_alloc_new w _
  rw [Addr.add_lit, Nat.zero_add, cell_of_heap hh]
  simpa using hj
theorem NodeG.one {G : Foot} {w : World} {t : T} {d : Nat} {v0 v1 v2 : Value} (h : NodeG G w d t v0 v1 v2) : v0.oneCell' = true ∧ v1.oneCell' = true ∧ v2.oneCell' = true := by
  obtain ⟨h1, ⟨l, rfl⟩, s, rfl⟩ := h.list
  rcases h1 with rfl | ⟨b, n, c, rfl, _⟩ <;> exact ⟨rfl, rfl, rfl⟩
theorem NodeRd.of_drew {w w' : World} {k W d : Nat} {S : ByteArray} {X : Except Int (T × List UInt8)} {e : Ending} (h : NodeRd (w.drewN k) W S d X e w') : NodeRd w W S d X e w' := by
  have hc : Ch [W] (w.drewN k) w' → Ch [W] w w' := fun h => ⟨h.os, h.tape, h.output, h.size, h.block⟩
  cases X with
  | error f => exact ⟨h.1, h.2.1, hc h.2.2⟩
  | ok q =>
    obtain ⟨t, r⟩ := q
    obtain ⟨v0, v1, v2, G, h1, h2, h3, h4⟩ := h
    exact ⟨v0, v1, v2, G, h1, h2, hc h3, ⟨h4.foot, h4.inv, h4.node⟩⟩
/-- The reader behind an append to the row of nodes. -/
theorem app_frame {w1 w2 w4 : World} {W d p : Nat} {S : ByteArray} {f : Int} {ts : List T} {v : Value} {G : Foot} {xs : List Value} {o : Obj} (h : KSt w1 W d ts v G xs w2) (hW : W < w1.heap.size) (hr : RdAt W S p f w2) (hg : (w2.alloc o).grownBy w4 v.ownBlock) : RdAt W S p f w4 ∧ Ch [W] w1 w4 := by
  have hs := h.ch.size
  refine ⟨?_, (h.ch.alloc o).grown hg (fun k hk => .inr (h.row k hk))⟩
  have h1 : w4.heap[W]? = (w2.alloc o).heap[W]? := hg.block W (by simp; omega) (fun e => by have := h.row W e.symm; omega)
  exact h1.trans (hr.keep ((Below.refl _ w2).alloc (Nat.le_refl _) o))
set_option maxRecDepth 100000 in
set_option maxHeartbeats 4000000 in
theorem rnode_any : ∀ (m d : Nat), d + m = 32 → ∀ (w0 w : World) (W : Nat) (S : ByteArray) (a : Nat), RdAt W S a 0 w → S.size ≤ 65536 → a ≤ S.size → Tab w0 → Below w0.heap.size w0 w → w0.heap.size ≤ W →
    Calls Tryz.prog 53 #[.pointer (some ⟨W, 0, none⟩), .int .i64 d] w (NodeRd w W S d (takeT m (S.data.toList.drop a))) := by
  intro m
  induction m using Nat.strongRecOn with
  | _ m ih =>
    intro d hdm w0 w W S a hr hS ha htab hb0 hW
    have hWl := lt_of_heap hr
    have hz : (w.alloc (.cells #[.bool false, .string ⟨#[]⟩, .slice none 0 0] 50)).heap.size = w.heap.size + 1 := by simp
    have hb1 : Below w.heap.size w (w.alloc (.cells #[.bool false, .string ⟨#[]⟩, .slice none 0 0] 50)) := (Below.refl _ w).alloc (Nat.le_refl _) _
    have hbx := heap_alloc_new w (.cells #[.bool false, .string ⟨#[]⟩, .slice none 0 0] 50)
    obtain ⟨w1, hw1⟩ : ∃ w1, w.alloc (.cells #[.bool false, .string ⟨#[]⟩, .slice none 0 0] 50) = w1 := ⟨_, rfl⟩
    rw [hw1] at hb1 hz hbx
    have hr1 := hr.keep hb1
    obtain ⟨c0, c1, c2, cf⟩ := hr1.cells
    obtain ⟨sl, hsl⟩ : ∃ sl, sl = S.data.toList := ⟨_, rfl⟩
    have hSl : S.size = sl.length := by rw [hsl]; simp
    have hget : ∀ (i : Nat) (h : i < S.size), ∃ c, sl[i]? = some c ∧ S[i] = c ∧ sl.drop i = c :: sl.drop (i + 1) := by
      intro i h
      have hi : i < sl.length := by rw [← hSl]; exact h
      refine ⟨sl[i], List.getElem?_eq_getElem hi, ?_, List.drop_eq_getElem_cons hi⟩
      subst hsl; rfl
    rw [← hsl]
    obtain ⟨R, hR⟩ : ∃ R, R = takeT m (sl.drop a) := ⟨_, rfl⟩
    rw [← hR]
    obtain ⟨b, hbe⟩ : ∃ b, b = w.heap.size := ⟨_, rfl⟩
    rw [← hbe] at hbx
    have hne1 : ¬ (W = b) := by omega
    have hne2 : ¬ (b = W) := by omega
    have hbad : ∀ W' (f : Int) p v0 v1 v2, Ch [W] w1 W' → RdAt W S p f W' → R = .error f → NodeRd w W S d R (.returned (.agg #[.bool false, .string ⟨#[]⟩, .slice none 0 0])) (((W'.setCell ⟨b, 0, none⟩ v0).setCell ⟨b, 1, none⟩ v1).setCell ⟨b, 2, none⟩ v2) := by
      intro W' f p v0 v1 v2 hc hr he
      rw [he]
      refine ⟨rfl, ⟨p, RdAt.other (RdAt.other (RdAt.other hr hne1 _ _) hne1 _ _) hne1 _ _⟩, ?_⟩
      exact ((((Ch.of_below hb1 _).trans hc (fun x hx => .inl hx)).setCell (.inr (by simp; omega)) _).setCell (.inr (by simp; omega)) _).setCell (.inr (by simp; omega)) _
    have hbox : ∀ W', Ch [W] w1 W' → W'.heap[b]? = some (.cells #[.bool false, .string ⟨#[]⟩, .slice none 0 0] 50 (0, 0)) := by
      intro W' hc
      rw [hc.block b (by omega) (by simp; exact hne2)]; exact hbx
    have b0 := cell_of_heap hbx 0
    have b1 := cell_of_heap hbx 1
    have b2 := cell_of_heap hbx 2
    have bf := frozen_of_heap hbx
    have HR1 := Lib.hid hr1; have HB1 := Lib.hid hb1; have HBAD := Lib.hid hbad; have HBOX := Lib.hid hbox; have HGET := Lib.hid hget; have HSL := Lib.hid hSl; have HTAB := Lib.hid htab; have HB0 := Lib.hid (hb0.trans (hb1.mono hb0.size)); have HBE := Lib.hid hbe; have HZ := Lib.hid hz; have HIH := Lib.hid ih; have HSLE := Lib.hid hsl; have HWL := Lib.hid hWl
    clear hr1 hb1 hbad hbox hget hSl htab hb0 hbx hz ih hsl hWl hr
    have hbe' := hbe.symm
    clear hbe
    by_cases hae : a = S.size
    · have hRe : R = .error 5 := by
        rw [hR, List.drop_of_length_le (by rw [← HSL.out]; omega)]
        cases m <;> rfl
      have HRE := Lib.hid hRe
      have hpd : ((a : Int) == (S.size : Int)) = true := by simp [hae]
      clear hR hRe hae
      go_enter Tryz.func53, Tryz.ntmps53
      go_wp2_with fail
      go_quiet (fail)
      go_wp2_with fail
      refine bodyPost_ret (by simp [results, Tryz.results53, go_sem, b0, b1, b2]; rfl) rfl ?_
      exact HBAD.out _ 5 a _ _ _ (((Ch.refl [W] w1).drewN _).setCell (.inl (by simp)) _) (RdAt.setFault (w := w1.drewN _) HR1.out 5) HRE.out
    · have hpd : ((a : Int) == (S.size : Int)) = false := by simp; omega
      have hal : a < S.size := by omega
      obtain ⟨c, hc, hcc, hdr⟩ := HGET.out a hal
      obtain ⟨z, hz⟩ : ∃ z : Int, z = ((S[a]'hal).toNat : Int) := ⟨_, rfl⟩
      have hz2 := hz.symm
      have hzc : z = (c.toNat : Int) := by rw [hz, hcc]
      rw [hdr] at hR
      clear hae
      by_cases h40 : c = 40
      · have hz40 : (z != 40) = false := by rw [hzc, h40]; rfl
        have hz41 : (z == 40) = true := by rw [hzc, h40]; rfl
        rw [h40] at hR
        clear hz hcc hzc hc hdr h40
        cases m with
        | zero =>
          have HRE := Lib.hid (show R = .error 4 from hR)
          have hd32 : 32 ≤ d := by omega
          clear hR hdm
          go_enter Tryz.func53, Tryz.ntmps53
          go_wp2_with fail
          go_quiet (fail)
          go_wp2_with fail
          go_quiet (fail)
          go_wp2_with fail
          refine bodyPost_ret (by simp [results, Tryz.results53, go_sem, b0, b1, b2]; rfl) rfl ?_
          exact HBAD.out _ 4 a _ _ _ (((Ch.refl [W] w1).drewN _).setCell (.inl (by simp)) _) (RdAt.setFault (w := w1.drewN _) HR1.out 4) HRE.out
        | succ m =>
          have hd32 : d < 32 := by omega
          have hdm' : (d + 1) + m = 32 := by omega
          have HIH2 := Lib.hid (HIH.out m (by omega) (d + 1) hdm')
          obtain ⟨Rk, hRk⟩ : ∃ Rk, Rk = takesT (takeT m) (sl.drop (a + 1)).length (sl.drop (a + 1)) := ⟨_, rfl⟩
          have hRR : R = boxT Rk := by rw [hR, hRk]; exact takeT_list m _
          have HRR := Lib.hid hRR; have HRK := Lib.hid hRk
          obtain ⟨iN, hiN, hz0, hz1, hz2'⟩ := info_parts nodeInfo
          have hW1 : Hid (W < w1.heap.size) := Lib.hid (lt_of_heap HR1.out)
          clear hR hRR hRk HIH hdm
          go_enter Tryz.func53, Tryz.ntmps53
          go_wp2_with fail
          go_quiet (fail)
          go_wp2_with fail
          go_quiet (fail)
          go_wp2_with fail
          go_loopg [5] (S.size - (a + 1)) (fun g x wr => ∃ (p : Nat) (ts : List T) (G : Foot) (xs : List Value), p ≤ S.size ∧ S.size ≤ g + p ∧ ts.length + 1 ≤ p ∧ Hid (RdAt W S p 0 wr) ∧ Hid (KSt w1 W d ts x G xs wr) ∧ Hid (Rk = joinT ts (takesT (takeT m) g (sl.drop p))))
          case atStart =>
            refine ⟨a + 1, [], fun _ _ _ => False, [], hal, by omega, by simp, ?_, ?_, ?_⟩
            · rw [show ((a : Int) + 1) = ((a + 1 : Nat) : Int) from by omega]
              exact RdAt.setAt (w := w1.drewN _) HR1.out (a + 1)
            · exact (KSt.start w1 W d).keep hW1.out (((Ch.refl [W] w1).drewN _).setCell (.inl (by simp)) _)
            · show Rk = _
              rw [HRK.out, List.length_drop, ← HSL.out]
              cases takesT (takeT m) (S.size - (a + 1)) (sl.drop (a + 1)) with
              | error e => rfl
              | ok q => rfl
          case round =>
            obtain ⟨p, ts, G, xs, hp, hg, htl, hrd, hks, hrk⟩ := hrel
            obtain ⟨av, cv, rfl⟩ := owns_form hks.out.own
            obtain ⟨k0, k1, k2, kf⟩ := hrd.out.cells
            have hbq := HBOX.out wr hks.out.ch
            have q0 := cell_of_heap hbq 0
            have q1 := cell_of_heap hbq 1
            have q2 := cell_of_heap hbq 2
            have qf := frozen_of_heap hbq
            clear hbq b0 b1 b2 bf c0 c1 c2 cf hpd hz2
            by_cases hpe : p = S.size
            · have hpd : ((p : Int) == (S.size : Int)) = true := by simp [hpe]
              have hpl : decide (p < S.size) = false := by simp; omega
              have hRe : R = .error 5 := by
                have h1 := hrk.out
                rw [List.drop_of_length_le (by rw [← HSL.out]; omega)] at h1
                rw [HRR.out, h1]
                cases gk <;> rfl
              have HRE := Lib.hid hRe
              clear hRe hpe
              go_wp2_with fail
              go_quiet (fail)
              go_wp2_with fail
              go_quiet (fail)
              go_wp2_with fail
              refine bodyPost_ret (by simp [results, Tryz.results53, go_sem, q0, q1, q2]; rfl) rfl ?_
              exact HBAD.out _ 5 p _ _ _ ((hks.out.ch.drewN _).setCell (.inl (by simp)) _) (RdAt.setFault (w := wr.drewN _) hrd.out 5) HRE.out
            · have hpd : ((p : Int) == (S.size : Int)) = false := by simp; omega
              have hpl : p < S.size := by omega
              obtain ⟨c, hc, hcc, hdr⟩ := HGET.out p hpl
              obtain ⟨z, hz⟩ : ∃ z : Int, z = ((S[p]'hpl).toNat : Int) := ⟨_, rfl⟩
              have hz2 := hz.symm
              have hzc : z = (c.toNat : Int) := by rw [hz, hcc]
              obtain ⟨g', hg'⟩ : ∃ g', gk = g' + 1 := ⟨gk - 1, by omega⟩
              by_cases h41 : c = 41
              · have hz41 : (z != 41) = false := by rw [hzc, h41]; rfl
                have hRe : R = .ok (.mk false [] ts, sl.drop (p + 1)) := by
                  have h1 := hrk.out
                  rw [hdr, h41, hg'] at h1
                  rw [HRR.out, h1]
                  simp [takesT, joinT, boxT]
                have HRE := Lib.hid hRe
                have hfin : ∀ k v0 v1 v2, NodeRd w W S d R (.returned (.agg #[.bool false, .string ⟨#[]⟩, .slice av ts.length cv])) (((((wr.drewN k).setCell ⟨W, 1, none⟩ (.int .i64 ((p + 1 : Nat) : Int))).setCell ⟨b, 0, none⟩ v0).setCell ⟨b, 1, none⟩ v1).setCell ⟨b, 2, none⟩ v2) := by
                  intro k v0 v1 v2
                  rw [HRE.out]
                  obtain ⟨G', hm⟩ := hks.out.made (w := w1) (Nat.le_refl _) hd32 (by omega)
                  have hs1 := HZ.out
                  have hs2 := hks.out.ch.size
                  have hWl := hW1.out
                  refine ⟨_, _, _, G', rfl, ?_, ?_, (hm.keep (fun g hg _ => ?_) (by simp [World.setCell])).base HB1.out.size⟩
                  · have e : S.size - (sl.drop (p + 1)).length = p + 1 := by rw [List.length_drop]; have := HSL.out; omega
                    rw [e]
                    exact RdAt.other (RdAt.other (RdAt.other (RdAt.setAt (w := wr.drewN k) hrd.out (p + 1)) hne1 _ _) hne1 _ _) hne1 _ _
                  · exact (((((Ch.of_below HB1.out _).trans (hks.out.ch.drewN k) (fun x hx => .inl hx)).setCell (.inl (by simp)) _).setCell (.inr (by simp; omega)) _).setCell (.inr (by simp; omega)) _).setCell (.inr (by simp; omega)) _
                  · rw [Below.heap_setCell _ _ _ _ (by simp; omega), Below.heap_setCell _ _ _ _ (by simp; omega), Below.heap_setCell _ _ _ _ (by simp; omega), Below.heap_setCell _ _ _ _ (by simp; omega)]
                    rfl
                have HFIN := Lib.hid hfin
                clear hfin hRe hpe hz hcc hzc hc hdr h41 hg'
                go_wp2_with fail
                go_quiet (fail)
                go_wp2_with fail
                go_quiet (fail)
                go_wp2_with fail
                rw [show ((p : Int) + 1) = ((p + 1 : Nat) : Int) from by omega]
                refine bodyPost_ret (by simp [results, Tryz.results53, go_sem, q0, q1, q2]; rfl) rfl ?_
                exact HFIN.out _ _ _ _
              · have hz41 : (z != 41) = true := by simp; rw [hzc]; intro h; apply h41; apply UInt8.toNat.inj; simp; omega
                have hI : ∀ k, Calls Tryz.prog 53 #[.pointer (some ⟨W, 0, none⟩), .int .i64 ((d : Int) + 1)] (wr.drewN k) (NodeRd wr W S (d + 1) (takeT m (sl.drop p))) := by
                  intro k
                  have h := HIH2.out w0 (wr.drewN k) W S p hrd.out hS hp HTAB.out (Below.drewN (HB0.out.trans (below_of_ch hks.out.ch (by intro k hk; rw [show k = W from by simpa using hk]; exact hW) HB0.out.size)) k) hW
                  rw [← HSLE.out, show ((d + 1 : Nat) : Int) = (d : Int) + 1 from by omega] at h
                  exact h.mono (fun e w' h => NodeRd.of_drew h)
                cases hX : takeT m (sl.drop p) with
                | error f =>
                  have hf := takeT_errs _ _ _ hX
                  have hRe : R = .error f := by
                    have h1 := hrk.out
                    rw [hdr] at hX
                    rw [hdr, hg', joinT_err h41 hX] at h1
                    rw [HRR.out, h1]; rfl
                  have HRE := Lib.hid hRe
                  have hf1 : (f != 0) = true := by rcases hf with rfl | rfl <;> decide
                  rw [hX] at hI
                  have HI := Lib.hid hI
                  clear hI hRe hpe hz hcc hzc hc hdr h41 hg' hX hf
                  go_wp2_with fail
                  go_quiet (fail)
                  go_wp2_with fail
                  refine (HI.out _).mono ?_
                  rintro e w2 ⟨rfl, ⟨pa, hra⟩, hch⟩
                  have HK2 := Lib.hid (hks.out.keep hW1.out hch)
                  have HRA := Lib.hid hra
                  clear hra hch k0 k1 k2 kf q0 q1 q2 qf
                  go_wp2_with (first | (at_builtin; refine wpList_append_srcs rfl (.tmp 70) (.tmp 75) 48 48 rfl 0 50 iN (.agg #[.bool false, .string ⟨#[]⟩, .slice none 0 0]) 3 48 Tryz.underlying48 hiN hz0 hz1 hz2' rfl (by decide) _ rfl _ _ (HK2.out.own.alloc _) _ rfl _ _ (node_src w2 (.bool false) (.string ⟨#[]⟩) (.slice none 0 0) 0 rfl rfl rfl) (by unfold maxLen; omega) (by omega) (Nat.zero_le _) ?_; intro a' c' w4 hown hgrow _ hblk; have HST := Lib.hid (app_frame HK2.out hW1.out HRA.out hgrow); have r2 := HST.out.1.cells.2.2.1; have q0 := cell_of_heap (HBOX.out w4 HST.out.2) 0; have q1 := cell_of_heap (HBOX.out w4 HST.out.2) 1; have q2 := cell_of_heap (HBOX.out w4 HST.out.2) 2; have qf := frozen_of_heap (HBOX.out w4 HST.out.2); clear hown hgrow hblk) | fail)
                  refine bodyPost_ret (by simp [results, Tryz.results53, go_sem, q0, q1, q2]; rfl) rfl ?_
                  exact HBAD.out _ f pa _ _ _ HST.out.2 HST.out.1 HRE.out
                | ok q =>
                  obtain ⟨t, r'⟩ := q
                  obtain ⟨k, hk1, hk2, hk3⟩ := takeT_len hdm' hX
                  have hrk2 : Rk = joinT (ts ++ [t]) (takesT (takeT m) g' r') := by
                    have h1 := hrk.out
                    rw [hdr] at hX
                    rw [hdr, hg', joinT_step h41 hX] at h1
                    exact h1
                  rw [List.length_drop, ← HSL.out] at hk2
                  rw [List.drop_drop] at hk3
                  obtain ⟨p', hp'⟩ : ∃ p', p' = p + k := ⟨_, rfl⟩
                  rw [← hp'] at hk3
                  rw [hk3] at hrk2
                  rw [hX] at hI
                  have hI2 : ∀ k, Calls Tryz.prog 53 #[.pointer (some ⟨W, 0, none⟩), .int .i64 ((d : Int) + 1)] (wr.drewN k) (fun e w2 => ∃ v0 v1 v2 G2, e = .returned (.agg #[v0, v1, v2]) ∧ RdAt W S p' 0 w2 ∧ Ch [W] wr w2 ∧ Made wr w2 (d + 1) G2 t v0 v1 v2) := by
                    intro k
                    refine (hI k).mono ?_
                    rintro e w2 ⟨v0, v1, v2, G2, h1, h2, h3, h4⟩
                    exact ⟨v0, v1, v2, G2, h1, by rw [show p' = S.size - r'.length from by omega]; exact h2, h3, h4⟩
                  have HI := Lib.hid hI2; have HRK2 := Lib.hid hrk2
                  have hp2 : p' ≤ S.size := by omega
                  have hp3 : p + 1 ≤ p' := by omega
                  have hg3 : S.size ≤ g' + p' := by omega
                  have HGK := Lib.hid hg'
                  clear hI hI2 hrk2 hpe hz hcc hzc hc hdr h41 hX hp' hk1 hk2 hk3 hg' hg
                  go_wp2_with fail
                  go_quiet (fail)
                  go_wp2_with fail
                  refine (HI.out _).mono ?_
                  rintro e w2 ⟨v0, v1, v2, G2, rfl, hra, hch, hmd⟩
                  have HK2 := Lib.hid (hks.out.keep hW1.out hch)
                  have HRA := Lib.hid hra; have HMD := Lib.hid hmd; have HCH := Lib.hid hch
                  obtain ⟨o0, o1, o2⟩ := hmd.node.one
                  have HO := Lib.hid (And.intro o0 (And.intro o1 o2))
                  clear hra hch hmd o0 o1 o2 k0 k1 k2 kf q0 q1 q2 qf
                  go_wp2_with (first | (at_builtin; refine wpList_append_srcs rfl (.tmp 70) (.tmp 75) 48 48 rfl 0 50 iN (.agg #[.bool false, .string ⟨#[]⟩, .slice none 0 0]) 3 48 Tryz.underlying48 hiN hz0 hz1 hz2' rfl (by decide) _ rfl _ _ (HK2.out.own.alloc _) _ rfl _ _ (node_src w2 v0 v1 v2 0 HO.out.1 HO.out.2.1 HO.out.2.2) (by unfold maxLen; omega) (by omega) (Nat.zero_le _) ?_; intro a' c' w4 hown hgrow _ hblk; have HST := Lib.hid (app_frame HK2.out hW1.out HRA.out hgrow); have r2 := HST.out.1.cells.2.2.1; have HKS := Lib.hid (hks.out.step hW1.out HCH.out HMD.out ((Below.refl _ w2).alloc (Nat.le_refl _) _) hown hgrow hblk); clear hown hgrow hblk) | fail)
                  go_roundg g'
                  case measure => have := HGK.out; omega
                  case rel => exact ⟨p', ts ++ [t], _, _, hp2, hg3, by simp; omega, HST.out.1, HKS.out, HRK2.out⟩
      · have hz40 : (z != 40) = true := by simp; rw [hzc]; intro h; apply h40; apply UInt8.toNat.inj; simp; omega
        have hz41 : (z == 40) = false := by simpa using hz40
        rw [takeT_text _ _ _ h40, ← hdr] at hR
        have hat : ∀ k, Calls Tryz.prog 73 #[.pointer (some ⟨W, 0, none⟩)] (w1.drewN k) (fun e w' => ∃ lf sx, e = .returned (.agg #[.bool lf, .string sx, .slice none 0 0]) ∧ Ch [W] w1 w' ∧ ∀ v0 v1 v2, NodeRd w W S d R (.returned (.agg #[.bool lf, .string sx, .slice none 0 0])) (((w'.setCell ⟨b, 0, none⟩ v0).setCell ⟨b, 1, none⟩ v1).setCell ⟨b, 2, none⟩ v2)) := by
          intro k
          have hA := ratom_any w0 (w1.drewN k) W S a HR1.out hS hal HTAB.out (Below.drewN HB0.out k) hW
          rw [← HSLE.out] at hA
          refine hA.mono ?_
          intro e w' h
          obtain ⟨lf, sx, h1, h2, h3⟩ := NodeRd.atom (w := w) (d := d) (Below.drewN HB1.out k) (by rw [List.length_drop]; have := HSL.out; omega) h (by omega)
          refine ⟨lf, sx, h1, ⟨h2.os, h2.tape, h2.output, h2.size, h2.block⟩, fun v0 v1 v2 => ?_⟩
          rw [hR]
          refine h3 _ (fun g hg => ?_) (by simp [World.setCell]) rfl rfl rfl HWL.out
          rw [Below.heap_setCell _ _ _ _ (by simp; omega), Below.heap_setCell _ _ _ _ (by simp; omega), Below.heap_setCell _ _ _ _ (by simp; omega)]
        have HAT := Lib.hid hat
        clear hat hR hz hcc hzc hc hdr h40
        go_enter Tryz.func53, Tryz.ntmps53
        go_wp2_with fail
        go_quiet (fail)
        go_wp2_with fail
        go_quiet (fail)
        go_wp2_with fail
        refine (HAT.out _).mono ?_
        rintro e w2 ⟨lf, sx, rfl, hch, hfin⟩
        have hbq := HBOX.out w2 hch
        have q0 := cell_of_heap hbq 0
        have q1 := cell_of_heap hbq 1
        have q2 := cell_of_heap hbq 2
        have qf := frozen_of_heap hbq
        have HFIN := Lib.hid hfin
        clear hfin hbq hch b0 b1 b2 bf
        go_wp2_with fail
        refine bodyPost_ret (by simp [results, Tryz.results53, go_sem, q0, q1, q2]; rfl) rfl ?_
        exact HFIN.out _ _ _
end Go.Proofs.YtjcimajkjnjdpabGreatDoor
