/- DERIVED. A range over a function whose iterator says how each element stands in memory: outermost, and within a round of another range. -/
import Derived.Test.YtaagkndhgicifaaGreatSv07
namespace Go.Proofs.YtaagkndhgicifaaGreat
open Go.RowKit
set_option linter.unusedVariables false

/-- The contract of an iterator that tells of each element how it stands in memory. -/
def StopsE {α : Type} (n : Nat) (P : Program) (g : Nat) (lb : Array Value) (encs : α → Array Value) (X : Nat → Obj → Prop) (S Sp : List α → Prop) (Ex : Nat → α → World → Prop) (w : World) : Prop :=
  ∀ (l : Nat) (J Jx : List α → World → Prop) (W : World), Below w.heap.size w W → OwnFrom W.heap.size J → OwnFrom W.heap.size Jx →
    (∀ pre x W1, J pre W1 → Sp (pre ++ [x]) → Ex W.heap.size x W1 → YieldAt Fence.wide (n - 1) P l (encs x) W1 fun e W' =>
      (e = .returned (.bool true) ∧ J (pre ++ [x]) W' ∧ RndX X W.heap.size W1 W') ∨ (e = .returned (.bool false) ∧ Jx (pre ++ [x]) W' ∧ RndX X W.heap.size W1 W')) →
    J [] W →
    CallsIn Fence.wide n P g (#[.func (.yield l) #[] #[]] ++ lb) W fun e W' => (∃ v, e = .returned v) ∧ ((∃ xs, S xs ∧ J xs W') ∨ (∃ pre, Sp pre ∧ Jx pre W'))
theorem StopsO.toE {α : Type} {n : Nat} {P : Program} {g : Nat} {lb : Array Value} {encs : α → Array Value} {X : Nat → Obj → Prop} {S Sp : List α → Prop} {w : World} (h : StopsO n P g lb encs X S Sp w) : StopsE n P g lb encs X S Sp (fun _ _ _ => True) w :=
  fun l J Jx W hW hJ hJx hY h0 => h l J Jx W hW hJ hJx (fun pre x W1 hj hs => hY pre x W1 hj hs trivial) h0
theorem rndX_own {β : Type} {X : Nat → Obj → Prop} {A : World} {D n : Nat} (hD : A.heap.size ≤ D) : OwnFrom D (fun (_ : β) W => RndX X n A W) :=
  fun _ P Q row hs hg hr => by
    have key : ∀ (k : Nat) (o : Obj), A.heap[k]? = some o → P.heap[k]? = some o → Q.heap[k]? = some o := fun k o h0 h1 => by
      refine (hg.block k (Array.getElem?_eq_some_iff.1 h1).1 (fun e => ?_)).trans h1
      have h2 := (hr k e.symm).1
      have h3 := (Array.getElem?_eq_some_iff.1 h0).1
      omega
    exact ⟨Nat.le_trans hs.size hg.size, fun k o hn hk hx => key k o hk (hs.new k o hn hk hx), fun k o hk ho hx => key k o hk (hs.cells k o hk ho hx)⟩
theorem below_own {β : Type} {A : World} {D : Nat} (hD : A.heap.size ≤ D) : OwnFrom D (fun (_ : β) W => Below A.heap.size A W) :=
  fun _ P Q row hs hg hr => hs.grown hg hs.size (fun k e => Nat.le_trans hD (hr k e).1)
theorem own_and {β : Type} {D : Nat} {I I' : β → World → Prop} (h : OwnFrom D I) (h' : OwnFrom D I') : OwnFrom D (fun s W => I s W ∧ I' s W) :=
  fun s P Q row hs hg hr => ⟨h s P Q row hs.1 hg hr, h' s P Q row hs.2 hg hr⟩
theorem own_mono {β : Type} {D D' : Nat} {I : β → World → Prop} (h : OwnFrom D I) (hD : D ≤ D') : OwnFrom D' I :=
  fun s P Q row hs hg hr => h s P Q row hs hg (fun k e => ⟨Nat.le_trans hD (hr k e).1, (hr k e).2⟩)
theorem own_block {β : Type} {D b : Nat} (f : β → Obj) (hb : b < D) : OwnFrom D (fun (s : β) W => W.heap[b]? = some (f s)) :=
  fun s P Q row hs hg hr => (hg.block b (lt_of_heap hs) (fun e => by have := (hr b e.symm).1; omega)).trans hs
variable {n : Nat} {P : Program}
/-- Outermost. -/
theorem range_wideE {α : Type} {g : Operand} {ps : Array Tmp} {assign body : Code} {Q : Exit → Act → World → Prop} {a : Act} {w : World}
    (h1 : 1 ≤ n) {gf : Nat} {lb : Array Value} (hg : a.eval g = .func (.func gf) #[] lb) (eg : ∀ args w, (callFunc gf args).run P w = .ok (.enter gf args) w)
    {encs : α → Array Value} {X : Nat → Obj → Prop} {S Sp : List α → Prop} {Ex : Nat → α → World → Prop} {w0 : World} (hseq : StopsE (n - 1) P gf lb encs X S Sp Ex w0)
    (hb0 : Below w0.heap.size w0 w) (hps : ∀ x, (encs x).size = ps.size)
    (I : List α → World → Prop) (Ix : Code → List α → World → Prop) (hI : OwnFrom w.heap.size I) (hIx : ∀ c, OwnFrom w.heap.size (Ix c)) (h0 : I [] w)
    (hround : ∀ (l : Nat) (pre : List α) (x : α) (W : World) (n0 : Nat), w.heap.size ≤ l → w.heap.size ≤ n0 → I pre W → Sp (pre ++ [x]) → Ex n0 x W →
      assign.wpIn (Fence.wide.inRound l) (n - 1 - 1) P (Exit.then (fun a' w' => Below W.heap.size W w' ∧ ∀ W2, I pre W2 → SameCells w' W2 → (∃ r, W2.heap[l]? = some (.loop r)) → body.wpIn (Fence.wide.inRound l) (n - 1 - 1) P (postO X w.heap.size I Ix (pre ++ [x]) W2) a' W2) (fun _ _ _ => False))
        { tmps := (ps.zip (encs x)).foldl (fun t (p, v) => t.setIfInBounds p v) a.tmps, defers := [] } W)
    (hdone : ∀ (D : Nat) (xs : List α) (W : World), w.heap.size ≤ D → S xs → I xs W → W.heap[D]? = some (.deferred (some [])) → Q .normal { a with defers := { target := .collected D, args := #[] } :: a.defers } W)
    (hstop : ∀ (D : Nat) (c : Code) (pre : List α) (W : World), w.heap.size ≤ D → Sp pre → Ix c pre W → W.heap[D]? = some (.deferred (some [])) → c.wpIn Fence.wide n P Q { a with defers := { target := .collected D, args := #[] } :: a.defers } W) :
    (Code.rangeFunc g ps assign body).wpIn Fence.wide n P Q a w := by
  refine wpIn_rangeFunc fun fn hfn => ?_
  obtain ⟨D, hD⟩ : ∃ D, D = w.heap.size := ⟨_, rfl⟩
  obtain ⟨rec, hrec⟩ : ∃ rec : LoopState → Option Code → Loop, rec = fun st pe => { state := st, pending := pe, fn, tmps := a.tmps, params := ps, assign, body, defers := w.heap.size } := ⟨_, rfl⟩
  obtain ⟨W1, hW1⟩ : ∃ W1, (w.alloc (.deferred (some []))).alloc (.loop (rec .ready none)) = W1 := ⟨_, rfl⟩
  have hz1 : W1.heap.size = D + 2 := by rw [← hW1, hD]; simp
  have hbk : BookAt W1 D (rec .ready none) := by
    refine ⟨?_, ?_⟩
    · have := World.alloc_heap_new (w.alloc (.deferred (some []))) (.loop (rec .ready none))
      rw [World.size_alloc] at this
      rw [← hW1, hD]; exact this
    · rw [← hW1, hD]; exact (Below.heap_alloc _ _ _ (by simp)).trans (World.alloc_heap_new w _)
  have hb1 : Below w0.heap.size w0 W1 := by
    rw [← hW1]; exact hb0.trans ((((Below.refl _ w).alloc (Nat.le_refl _) _).alloc (by simp) _).mono hb0.size)
  have hI1 : I [] W1 := by rw [← hW1]; exact hI.alloc _ (hI.alloc _ h0)
  refine ⟨D + 1, [{ target := .collected D, args := #[] }], W1, { target := .fn (.func gf) lb, args := #[.func (.yield (D + 1)) #[] #[]] }, W1, gf, #[.func (.yield (D + 1)) #[] #[]] ++ lb, W1, ?_, ?_, fun _ _ => trivial, ?_, fun _ => h1, ?_⟩
  · rw [← hW1, hrec, hD]; exact run_enterLoop_outer _ _ _ _ _
  · simp only [resolve, hg]
    simp [go_sem]
  · simp [invoke, go_sem, eg]
  rw [← hD] at hI hIx hround
  have end1 : ∀ (jump : Option Code) (W3 : World), BookAt W3 D (rec .busy none) →
      (Instr.endRound (D + 1) jump).run P W3 = .ok (.bool jump.isNone) (W3.putObj (D + 1) (.loop (rec (if jump.isNone then .ready else .done) jump))) := fun jump W3 hk3 => by
    have hl3 := hk3.rcd
    rw [hrec] at hl3
    have := run_endRound (P := P) jump hl3
    rw [hrec]; exact this
  refine (hseq (D + 1) (fun pre W => I pre W ∧ BookAt W D (rec .ready none)) (fun pre W => ∃ c, Ix c pre W ∧ BookAt W D (rec .done (some c))) W1 hb1
    (own_and_book (by omega) hI _) (fun s A C row hs hg' hr => ?_) ?_ ⟨hI1, hbk⟩).mono ?_
  · obtain ⟨c, hc, hk⟩ := hs
    exact ⟨c, own_and_book (by omega) (hIx c) _ s A C row ⟨hc, hk⟩ hg' hr⟩
  · rintro pre x W ⟨hi, hk⟩ hlen hex
    have hl := hk.rcd
    have hy := run_yield (P := P) (args := encs x) hl (by rw [hrec]; exact hps x)
    rw [hrec] at hy
    refine ⟨fn, _, assign, body, hy, roundIn_of_wpIn hfn (wpIn_mono (hround _ pre x W W1.heap.size (by omega) (by omega) hi hlen hex) ?_)⟩
    rintro e0 a0 Wa hp0
    cases e0 with
    | ret => exact hp0
    | exit id => exact hp0
    | goto t => exact hp0
    | panic ch => exact hp0
    | outgrown => exact hp0
    | normal =>
    obtain ⟨hba, hgo⟩ := hp0
    have hka : BookAt Wa D (rec .ready none) := ⟨(hba.block _ (Array.getElem?_eq_some_iff.1 hk.rcd).1).trans hk.rcd, (hba.block _ (Array.getElem?_eq_some_iff.1 hk.dfr).1).trans hk.dfr⟩
    have hla := hka.rcd
    have hia : I pre Wa := own_below hI hi hba
    refine ⟨_, run_beginRound hla (by rw [hrec]), ?_⟩
    have hstart : I pre (Wa.putObj (D + 1) (.loop { rec .ready none with state := .busy })) := hI.putObj _ hia (by omega) hla rfl
    have hk2 : BookAt (Wa.putObj (D + 1) (.loop { rec .ready none with state := .busy })) D (rec .busy none) := by
      have := hka.put { rec .ready none with state := .busy }
      rw [hrec] at this ⊢
      exact this
    have hsame : SameCells Wa (Wa.putObj (D + 1) (.loop { rec .ready none with state := .busy })) := ⟨by simp, fun k o hko ho => by
      refine (World.putObj_heap_other (fun e => ?_)).trans hko
      subst e
      rw [hla] at hko
      obtain rfl := Option.some.inj hko
      cases ho⟩
    refine wpIn_mono (hgo _ hstart hsame ⟨_, hk2.rcd⟩) ?_
    rintro e a3 W3 hp
    have fin : ∀ (jump : Option Code), RndX X D (Wa.putObj (D + 1) (.loop { rec .ready none with state := .busy })) W3 →
        BookAt W3 D (rec .busy none) ∧ RndX X W1.heap.size W (W3.putObj (D + 1) (.loop (rec (if jump.isNone then .ready else .done) jump))) :=
      fun jump h => ⟨hk2.only h, (RndX.of_below hba).trans (rnd_of hka (by omega) _ _ h)⟩
    cases e with
    | normal =>
      obtain ⟨ho, hi3⟩ := hp
      obtain ⟨hk3, hr3⟩ := fin none ho
      exact ⟨_, _, end1 none W3 hk3, .inl ⟨rfl, ⟨hI.putObj _ hi3 (by omega) hk3.rcd rfl, hk3.put _⟩, hr3⟩⟩
    | ret =>
      obtain ⟨ho, hi3⟩ := hp
      obtain ⟨hk3, hr3⟩ := fin (some .ret) ho
      exact ⟨_, _, end1 (some .ret) W3 hk3, .inr ⟨rfl, ⟨.ret, (hIx _).putObj _ hi3 (by omega) hk3.rcd rfl, hk3.put _⟩, hr3⟩⟩
    | exit id =>
      obtain ⟨ho, hi3⟩ := hp
      obtain ⟨hk3, hr3⟩ := fin (some (.exit id)) ho
      exact ⟨_, _, end1 (some (.exit id)) W3 hk3, .inr ⟨rfl, ⟨.exit id, (hIx _).putObj _ hi3 (by omega) hk3.rcd rfl, hk3.put _⟩, hr3⟩⟩
    | goto t =>
      obtain ⟨ho, hi3⟩ := hp
      obtain ⟨hk3, hr3⟩ := fin (some (.goto t)) ho
      exact ⟨_, _, end1 (some (.goto t)) W3 hk3, .inr ⟨rfl, ⟨.goto t, (hIx _).putObj _ hi3 (by omega) hk3.rcd rfl, hk3.put _⟩, hr3⟩⟩
    | panic ch => exact hp.elim
    | outgrown => exact hp.elim
  · rintro e W2 ⟨⟨v, rfl⟩, (⟨xs, hS, hi, hk⟩ | ⟨pre, hSp, c, hi, hk⟩)⟩
    · have hl := hk.rcd
      refine ⟨none, _, by have := run_endLoop (P := P) hl (by rw [hrec]; simp); rw [hrec] at this; exact this, ?_⟩
      exact hdone D xs _ (by omega) hS (hI.putObj _ hi (by omega) hl rfl) ((World.putObj_heap_other (by omega)).trans hk.dfr)
    · have hl := hk.rcd
      refine ⟨some c, _, by have := run_endLoop (P := P) hl (by rw [hrec]; simp); rw [hrec] at this; exact this, ?_⟩
      exact hstop D c pre _ (by omega) hSp ((hIx c).putObj _ hi (by omega) hl rfl) ((World.putObj_heap_other (by omega)).trans hk.dfr)
/-- The record of an inner loop. -/
theorem rcd_own {α : Type} {D : Nat} {I : List α → World → Prop} (hI : OwnFrom D I) (r : Loop) : OwnFrom (D + 1) (fun pre W => I pre W ∧ W.heap[D]? = some (.loop r)) :=
  fun s A C row hs hg hr => ⟨hI s A C row hs.1 hg (fun k e => ⟨by have := (hr k e).1; omega, (hr k e).2⟩), (hg.block _ (Array.getElem?_eq_some_iff.1 hs.2).1 (fun e => by have := (hr _ e.symm).1; omega)).trans hs.2⟩
theorem rnd_of1 {X : Nat → Obj → Prop} {W W2 : World} {D n : Nat} {r : Loop} (h : W.heap[D]? = some (.loop r)) (hn : D + 1 ≤ n) (rb rr : Loop) (hk : RndX X D (W.putObj D (.loop rb)) W2) : RndX X n W (W2.putObj D (.loop rr)) := by
  have hz : (W.putObj D (.loop rb)).heap.size = W.heap.size := by simp
  have h1 := hk.size
  rw [hz] at h1
  refine ⟨by simpa using h1, fun k o hnk hko hx => ?_, fun k o hko ho hxk => ?_⟩
  · exact (World.putObj_heap_other (by omega)).trans (hk.new k o (by omega) ((World.putObj_heap_other (by omega)).trans hko) hx)
  · have hne : k ≠ D := fun e => by
      subst e
      rw [h] at hko
      obtain rfl := Option.some.inj hko
      cases ho
    exact (World.putObj_heap_other hne).trans (hk.cells k o ((World.putObj_heap_other hne).trans hko) ho hxk)
/-- Within a round of loop l0. -/
theorem range_inE {α : Type} {g : Operand} {ps : Array Tmp} {assign body : Code} {Q : Exit → Act → World → Prop} {a : Act} {w : World} {l0 : Nat}
    (hl0 : ∃ r, w.heap[l0]? = some (.loop r)) (h1 : 1 ≤ n) {gf : Nat} {lb : Array Value} (hg : a.eval g = .func (.func gf) #[] lb) (eg : ∀ args w, (callFunc gf args).run P w = .ok (.enter gf args) w)
    {encs : α → Array Value} {X : Nat → Obj → Prop} {S Sp : List α → Prop} {Ex : Nat → α → World → Prop} {w0 : World} (hseq : StopsE (n - 1) P gf lb encs X S Sp Ex w0)
    (hb0 : Below w0.heap.size w0 w) (hps : ∀ x, (encs x).size = ps.size)
    (I : List α → World → Prop) (Ix : Code → List α → World → Prop) (hI : OwnFrom w.heap.size I) (hIx : ∀ c, OwnFrom w.heap.size (Ix c)) (h0 : I [] w)
    (hround : ∀ (l : Nat) (pre : List α) (x : α) (W : World) (n0 : Nat), w.heap.size ≤ l → w.heap.size ≤ n0 → I pre W → Sp (pre ++ [x]) → Ex n0 x W →
      assign.wpIn (Fence.wide.inRound l) (n - 1 - 1) P (Exit.then (fun a' w' => Below W.heap.size W w' ∧ ∀ W2, I pre W2 → SameCells w' W2 → (∃ r, W2.heap[l]? = some (.loop r)) → body.wpIn (Fence.wide.inRound l) (n - 1 - 1) P (postO X w.heap.size I Ix (pre ++ [x]) W2) a' W2) (fun _ _ _ => False))
        { tmps := (ps.zip (encs x)).foldl (fun t (p, v) => t.setIfInBounds p v) a.tmps, defers := [] } W)
    (hdone : ∀ (xs : List α) (W : World), S xs → I xs W → Q .normal a W)
    (hstop : ∀ (c : Code) (pre : List α) (W : World), Sp pre → Ix c pre W → c.wpIn (Fence.wide.inRound l0) n P Q a W) :
    (Code.rangeFunc g ps assign body).wpIn (Fence.wide.inRound l0) n P Q a w := by
  obtain ⟨r0, hl0⟩ := hl0
  refine wpIn_rangeFunc ?_
  intro fn hfn
  rw [show (Fence.wide.inRound l0).round = some l0 from rfl]
  obtain ⟨D, hD⟩ : ∃ D, D = w.heap.size := ⟨_, rfl⟩
  obtain ⟨rec, hrec⟩ : ∃ rec : LoopState → Option Code → Loop, rec = fun st pe => { state := st, pending := pe, fn, tmps := a.tmps, params := ps, assign, body, defers := r0.defers } := ⟨_, rfl⟩
  obtain ⟨W1, hW1⟩ : ∃ W1, w.alloc (.loop (rec .ready none)) = W1 := ⟨_, rfl⟩
  have hz1 : W1.heap.size = D + 1 := by rw [← hW1, hD]; simp
  have hbk : W1.heap[D]? = some (.loop (rec .ready none)) := by rw [← hW1, hD]; exact World.alloc_heap_new w _
  have hb1 : Below w0.heap.size w0 W1 := by
    rw [← hW1]; exact hb0.trans (((Below.refl _ w).alloc (Nat.le_refl _) _).mono hb0.size)
  have hI1 : I [] W1 := by rw [← hW1]; exact hI.alloc _ h0
  refine ⟨D, [], W1, { target := .fn (.func gf) lb, args := #[.func (.yield D) #[] #[]] }, W1, gf, #[.func (.yield D) #[] #[]] ++ lb, W1, ?_, ?_, fun _ _ => trivial, ?_, fun _ => h1, ?_⟩
  · rw [← hW1, hrec, hD]; exact run_enterLoop_inner hl0 _ _ _ _ _
  · simp only [resolve, hg]
    simp [go_sem]
  · simp [invoke, go_sem, eg]
  rw [← hD] at hI hIx hround
  have end1 : ∀ (jump : Option Code) (W3 : World), W3.heap[D]? = some (.loop (rec .busy none)) →
      (Instr.endRound D jump).run P W3 = .ok (.bool jump.isNone) (W3.putObj D (.loop (rec (if jump.isNone then .ready else .done) jump))) := fun jump W3 hl3 => by
    rw [hrec] at hl3
    have := run_endRound (P := P) jump hl3
    rw [hrec]; exact this
  refine (CallsIn.inRound l0 (hseq D (fun pre W => I pre W ∧ W.heap[D]? = some (.loop (rec .ready none))) (fun pre W => ∃ c, Ix c pre W ∧ W.heap[D]? = some (.loop (rec .done (some c)))) W1 hb1
    (by rw [hz1]; exact rcd_own hI _) (fun s A C row hs hg' hr => ?_) ?_ ⟨hI1, hbk⟩)).mono ?_
  · obtain ⟨c, hc, hk⟩ := hs
    exact ⟨c, rcd_own (hIx c) _ s A C row ⟨hc, hk⟩ hg' (by rw [hz1] at hr; exact hr)⟩
  · rintro pre x W ⟨hi, hk⟩ hlen hex
    have hl := hk
    have hy := run_yield (P := P) (args := encs x) hl (by rw [hrec]; exact hps x)
    rw [hrec] at hy
    refine ⟨fn, _, assign, body, hy, roundIn_of_wpIn hfn (wpIn_mono (hround _ pre x W W1.heap.size (by omega) (by omega) hi hlen hex) ?_)⟩
    rintro e0 a0 Wa hp0
    cases e0 with
    | ret => exact hp0
    | exit id => exact hp0
    | goto t => exact hp0
    | panic ch => exact hp0
    | outgrown => exact hp0
    | normal =>
    obtain ⟨hba, hgo⟩ := hp0
    have hla : Wa.heap[D]? = some (.loop (rec .ready none)) := (hba.block _ (Array.getElem?_eq_some_iff.1 hk).1).trans hk
    have hia : I pre Wa := own_below hI hi hba
    refine ⟨_, run_beginRound hla (by rw [hrec]), ?_⟩
    have hstart : I pre (Wa.putObj D (.loop { rec .ready none with state := .busy })) := hI.putObj _ hia (by omega) hla rfl
    have hk2 : (Wa.putObj D (.loop { rec .ready none with state := .busy })).heap[D]? = some (.loop (rec .busy none)) := by
      have := World.putObj_heap_same (o := .loop { rec .ready none with state := .busy }) (Array.getElem?_eq_some_iff.1 hla).1
      rw [hrec] at this ⊢
      exact this
    have hsame : SameCells Wa (Wa.putObj D (.loop { rec .ready none with state := .busy })) := ⟨by simp, fun k o hko ho => by
      refine (World.putObj_heap_other (fun e => ?_)).trans hko
      subst e
      rw [hla] at hko
      obtain rfl := Option.some.inj hko
      cases ho⟩
    refine wpIn_mono (hgo _ hstart hsame ⟨_, hk2⟩) ?_
    rintro e a3 W3 hp
    have fin : ∀ (jump : Option Code), RndX X D (Wa.putObj D (.loop { rec .ready none with state := .busy })) W3 →
        W3.heap[D]? = some (.loop (rec .busy none)) ∧ RndX X W1.heap.size W (W3.putObj D (.loop (rec (if jump.isNone then .ready else .done) jump))) :=
      fun jump h => ⟨h.new _ _ (Nat.le_refl _) hk2 (fun e => by cases e), (RndX.of_below hba).trans (rnd_of1 hla (by omega) _ _ h)⟩
    cases e with
    | normal =>
      obtain ⟨ho, hi3⟩ := hp
      obtain ⟨hk3, hr3⟩ := fin none ho
      exact ⟨_, _, end1 none W3 hk3, .inl ⟨rfl, ⟨hI.putObj _ hi3 (by omega) hk3 rfl, World.putObj_heap_same (Array.getElem?_eq_some_iff.1 hk3).1⟩, hr3⟩⟩
    | ret =>
      obtain ⟨ho, hi3⟩ := hp
      obtain ⟨hk3, hr3⟩ := fin (some .ret) ho
      exact ⟨_, _, end1 (some .ret) W3 hk3, .inr ⟨rfl, ⟨.ret, (hIx _).putObj _ hi3 (by omega) hk3 rfl, World.putObj_heap_same (Array.getElem?_eq_some_iff.1 hk3).1⟩, hr3⟩⟩
    | exit id =>
      obtain ⟨ho, hi3⟩ := hp
      obtain ⟨hk3, hr3⟩ := fin (some (.exit id)) ho
      exact ⟨_, _, end1 (some (.exit id)) W3 hk3, .inr ⟨rfl, ⟨.exit id, (hIx _).putObj _ hi3 (by omega) hk3 rfl, World.putObj_heap_same (Array.getElem?_eq_some_iff.1 hk3).1⟩, hr3⟩⟩
    | goto t =>
      obtain ⟨ho, hi3⟩ := hp
      obtain ⟨hk3, hr3⟩ := fin (some (.goto t)) ho
      exact ⟨_, _, end1 (some (.goto t)) W3 hk3, .inr ⟨rfl, ⟨.goto t, (hIx _).putObj _ hi3 (by omega) hk3 rfl, World.putObj_heap_same (Array.getElem?_eq_some_iff.1 hk3).1⟩, hr3⟩⟩
    | panic ch => exact hp.elim
    | outgrown => exact hp.elim
  · rintro e W2 ⟨⟨v, rfl⟩, (⟨xs, hS, hi, hk⟩ | ⟨pre, hSp, c, hi, hk⟩)⟩
    · refine ⟨none, _, by have := run_endLoop (P := P) hk (by rw [hrec]; simp); rw [hrec] at this; exact this, ?_⟩
      exact hdone xs _ hS (hI.putObj _ hi (by omega) hk rfl)
    · refine ⟨some c, _, by have := run_endLoop (P := P) hk (by rw [hrec]; simp); rw [hrec] at this; exact this, ?_⟩
      exact hstop c pre _ hSp ((hIx c).putObj _ hi (by omega) hk rfl)
end Go.Proofs.YtaagkndhgicifaaGreat
