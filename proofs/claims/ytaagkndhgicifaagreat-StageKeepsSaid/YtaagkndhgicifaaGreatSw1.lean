/- DERIVED. Texts of this claim, put together: RngE, ShAll, StkAll, StkIss, RegIn. -/
import Derived.Test.YtaagkndhgicifaaGreatSv09
import Derived.OrdersIn
import Derived.TacticsIn
namespace Go.Proofs.YtaagkndhgicifaaGreat
open Go.RowKit
set_option linter.unusedVariables false
def StopsE {α : Type} (n : Nat) (P : Program) (g : Nat) (lb : Array Value) (encs : α → Array Value) (X : Nat → Obj → Prop) (S Sp : List α → Prop) (Ex : Nat → α → World → Prop) (w : World) : Prop :=
 ∀ (l : Nat) (J Jx : List α → World → Prop) (W : World), Below w.heap.size w W → OwnFrom W.heap.size J → OwnFrom W.heap.size Jx →
  (∀ pre x W1, J pre W1 → Sp (pre ++ [x]) → Ex W.heap.size x W1 → YieldAt Fence.wide (n - 1) P l (encs x) W1 fun e W' =>
   (e = .returned (.bool true) ∧ J (pre ++ [x]) W' ∧ RndX X W.heap.size W1 W') ∨ (e = .returned (.bool false) ∧ Jx (pre ++ [x]) W' ∧ RndX X W.heap.size W1 W')) →
  J [] W →
  CallsIn Fence.wide n P g (#[.func (.yield l) #[] #[]] ++ lb) W fun e W' => (∃ v, e = .returned v) ∧ ((∃ xs, S xs ∧ J xs W') ∨ (∃ pre, Sp pre ∧ Jx pre W'))
theorem StopsO.toE {α : Type} {n : Nat} {P : Program} {g : Nat} {lb : Array Value} {encs : α → Array Value} {X : Nat → Obj → Prop} {S Sp : List α → Prop} {w : World} (h : StopsO n P g lb encs X S Sp w) : StopsE n P g lb encs X S Sp (fun _ _ _ => True) w :=
 fun l J Jx W hW hJ hJx hY h0 => h l J Jx W hW hJ hJx (fun pre x W1 hj hs => hY pre x W1 hj hs trivial) h0
theorem rndX_own {β : Type} {X : Nat → Obj → Prop} {A : World} {D n : Nat} (hD : A.heap.size ≤ D) : OwnFrom D (fun (_ : β) W => RndX X n A W) :=
 fun _ P Q row hs hg hr => by
  have key : ∀ (k : Nat) (o : Obj), A.heap[k]? = some o → P.heap[k]? = some o → Q.heap[k]? = some o := fun k o h0 h1 => by
   refine (hg.block k (Array.getElem?_eq_some_iff.1 h1).1 (fun e => ?_)).trans h1
   have h2 := (hr k e.symm).1
   have h3 := (Array.getElem?_eq_some_iff.1 h0).1
   omega
  exact ⟨Nat.le_trans hs.size hg.size, fun k o hn hk hx => key k o hk (hs.new k o hn hk hx), fun k o hk ho hx => key k o hk (hs.cells k o hk ho hx)⟩
theorem below_own {β : Type} {A : World} {D : Nat} (hD : A.heap.size ≤ D) : OwnFrom D (fun (_ : β) W => Below A.heap.size A W) :=
 fun _ P Q row hs hg hr => hs.grown hg hs.size (fun k e => Nat.le_trans hD (hr k e).1)
theorem own_and {β : Type} {D : Nat} {I I' : β → World → Prop} (h : OwnFrom D I) (h' : OwnFrom D I') : OwnFrom D (fun s W => I s W ∧ I' s W) :=
 fun s P Q row hs hg hr => ⟨h s P Q row hs.1 hg hr, h' s P Q row hs.2 hg hr⟩
theorem own_mono {β : Type} {D D' : Nat} {I : β → World → Prop} (h : OwnFrom D I) (hD : D ≤ D') : OwnFrom D' I :=
 fun s P Q row hs hg hr => h s P Q row hs hg (fun k e => ⟨Nat.le_trans hD (hr k e).1, (hr k e).2⟩)
theorem own_block {β : Type} {D b : Nat} (f : β → Obj) (hb : b < D) : OwnFrom D (fun (s : β) W => W.heap[b]? = some (f s)) :=
 fun s P Q row hs hg hr => (hg.block b (loh hs) (fun e => by have := (hr b e.symm).1; omega)).trans hs
variable {n : Nat} {P : Program}
theorem range_wideE {α : Type} {g : Operand} {ps : Array Tmp} {assign body : Code} {Q : Exit → Act → World → Prop} {a : Act} {w : World}
  (h1 : 1 ≤ n) {gf : Nat} {lb : Array Value} (hg : a.eval g = .func (.func gf) #[] lb) (eg : ∀ args w, (callFunc gf args).run P w = .ok (.enter gf args) w)
  {encs : α → Array Value} {X : Nat → Obj → Prop} {S Sp : List α → Prop} {Ex : Nat → α → World → Prop} {w0 : World} (hseq : StopsE (n - 1) P gf lb encs X S Sp Ex w0)
  (hb0 : Below w0.heap.size w0 w) (hps : ∀ x, (encs x).size = ps.size)
  (I : List α → World → Prop) (Ix : Code → List α → World → Prop) (hI : OwnFrom w.heap.size I) (hIx : ∀ c, OwnFrom w.heap.size (Ix c)) (h0 : I [] w)
  (hround : ∀ (l : Nat) (pre : List α) (x : α) (W : World) (n0 : Nat), w.heap.size ≤ l → w.heap.size ≤ n0 → I pre W → Sp (pre ++ [x]) → Ex n0 x W →
   assign.wpIn (Fence.wide.inRound l) (n - 1 - 1) P (Exit.then (fun a' w' => Below W.heap.size W w' ∧ ∀ W2, I pre W2 → SameCells w' W2 → (∃ r, W2.heap[l]? = some (.loop r)) → body.wpIn (Fence.wide.inRound l) (n - 1 - 1) P (postO X w.heap.size I Ix (pre ++ [x]) W2) a' W2) (fun _ _ _ => False))
    { tmps := (ps.zip (encs x)).foldl (fun t (p, v) => t.setIfInBounds p v) a.tmps, defers := [] } W)
  (hdone : ∀ (D : Nat) (xs : List α) (W : World), w.heap.size ≤ D → S xs → I xs W → W.heap[D]? = some (.deferred (some [])) → Q .normal { a with defers := { target := .collected D, args := #[] } :: a.defers } W)
  (hstop : ∀ (D : Nat) (c : Code) (pre : List α) (W : World), w.heap.size ≤ D → Sp pre → Ix c pre W → W.heap[D]? = some (.deferred (some [])) → c.wpIn Fence.wide n P Q { a with defers := { target := .collected D, args := #[] } :: a.defers } W) :
  (Code.rangeFunc g ps assign body).wpIn Fence.wide n P Q a w := by
 refine wpIn_rangeFunc fun fn hfn => ?_
 obtain ⟨D, hD⟩ : ∃ D, D = w.heap.size := ⟨_, rfl⟩
 obtain ⟨rec, hrec⟩ : ∃ rec : LoopState → Option Code → Loop, rec = fun st pe => { state := st, pending := pe, fn, tmps := a.tmps, params := ps, assign, body, defers := w.heap.size } := ⟨_, rfl⟩
 obtain ⟨W1, hW1⟩ : ∃ W1, (w.alloc (.deferred (some []))).alloc (.loop (rec .ready none)) = W1 := ⟨_, rfl⟩
 have hz1 : W1.heap.size = D + 2 := by rw [← hW1, hD]; simp
 have hbk : BookAt W1 D (rec .ready none) := by
  refine ⟨?_, ?_⟩
  ·have := World.alloc_heap_new (w.alloc (.deferred (some []))) (.loop (rec .ready none))
   rw [World.size_alloc] at this
   rw [← hW1, hD]; exact this
  ·rw [← hW1, hD]; exact (Below.heap_alloc _ _ _ (by simp)).trans (World.alloc_heap_new w _)
 have hb1 : Below w0.heap.size w0 W1 := by
  rw [← hW1]; exact hb0.trans ((((Below.refl _ w).alloc (Nat.le_refl _) _).alloc (by simp) _).mono hb0.size)
 have hI1 : I [] W1 := by rw [← hW1]; exact hI.alloc _ (hI.alloc _ h0)
 refine ⟨D + 1, [{ target := .collected D, args := #[] }], W1, { target := .fn (.func gf) lb, args := #[.func (.yield (D + 1)) #[] #[]] }, W1, gf, #[.func (.yield (D + 1)) #[] #[]] ++ lb, W1, ?_, ?_, fun _ _ => trivial, ?_, fun _ => h1, ?_⟩
 ·rw [← hW1, hrec, hD]; exact run_enterLoop_outer _ _ _ _ _
 ·simp only [resolve, hg]
  simp [go_sem]
 ·simp [invoke, go_sem, eg]
 rw [← hD] at hI hIx hround
 have end1 : ∀ (jump : Option Code) (W3 : World), BookAt W3 D (rec .busy none) →
   (Instr.endRound (D + 1) jump).run P W3 = .ok (.bool jump.isNone) (W3.putObj (D + 1) (.loop (rec (if jump.isNone then .ready else .done) jump))) := fun jump W3 hk3 => by
  have hl3 := hk3.rcd
  rw [hrec] at hl3
  have := run_endRound (P := P) jump hl3
  rw [hrec]; exact this
 refine (hseq (D + 1) (fun pre W => I pre W ∧ BookAt W D (rec .ready none)) (fun pre W => ∃ c, Ix c pre W ∧ BookAt W D (rec .done (some c))) W1 hb1
  (own_and_book (by omega) hI _) (fun s A C row hs hg' hr => ?_) ?_ ⟨hI1, hbk⟩).mono ?_
 ·obtain ⟨c, hc, hk⟩ := hs
  exact ⟨c, own_and_book (by omega) (hIx c) _ s A C row ⟨hc, hk⟩ hg' hr⟩
 ·rintro pre x W ⟨hi, hk⟩ hlen hex
  have hl := hk.rcd
  have hy := run_yield (P := P) (args := encs x) hl (by rw [hrec]; exact hps x)
  rw [hrec] at hy
  refine ⟨fn, _, assign, body, hy, roundIn_of_wpIn hfn (wpIn_mono (hround _ pre x W W1.heap.size (by omega) (by omega) hi hlen hex) ?_)⟩
  rintro e0 a0 Wa hp0
  cases e0 with
  | ret => exact hp0
  | exit id => exact hp0
  | goto t => exact hp0
  | panic ch => exact hp0
  | outgrown => exact hp0
  | normal =>
  obtain ⟨hba, hgo⟩ := hp0
  have hka : BookAt Wa D (rec .ready none) := ⟨(hba.block _ (Array.getElem?_eq_some_iff.1 hk.rcd).1).trans hk.rcd, (hba.block _ (Array.getElem?_eq_some_iff.1 hk.dfr).1).trans hk.dfr⟩
  have hla := hka.rcd
  have hia : I pre Wa := own_below hI hi hba
  refine ⟨_, run_beginRound hla (by rw [hrec]), ?_⟩
  have hstart : I pre (Wa.putObj (D + 1) (.loop { rec .ready none with state := .busy })) := hI.putObj _ hia (by omega) hla rfl
  have hk2 : BookAt (Wa.putObj (D + 1) (.loop { rec .ready none with state := .busy })) D (rec .busy none) := by
   have := hka.put { rec .ready none with state := .busy }
   rw [hrec] at this ⊢
   exact this
  have hsame : SameCells Wa (Wa.putObj (D + 1) (.loop { rec .ready none with state := .busy })) := ⟨by simp, fun k o hko ho => by
   refine (World.putObj_heap_other (fun e => ?_)).trans hko
   subst e
   rw [hla] at hko
   obtain rfl := sIj hko
   cases ho⟩
  refine wpIn_mono (hgo _ hstart hsame ⟨_, hk2.rcd⟩) ?_
  rintro e a3 W3 hp
  have fin : ∀ (jump : Option Code), RndX X D (Wa.putObj (D + 1) (.loop { rec .ready none with state := .busy })) W3 →
    BookAt W3 D (rec .busy none) ∧ RndX X W1.heap.size W (W3.putObj (D + 1) (.loop (rec (if jump.isNone then .ready else .done) jump))) :=
   fun jump h => ⟨hk2.only h, (RndX.of_below hba).trans (rnd_of hka (by omega) _ _ h)⟩
  cases e with
  | normal =>
   obtain ⟨ho, hi3⟩ := hp
   obtain ⟨hk3, hr3⟩ := fin none ho
   exact ⟨_, _, end1 none W3 hk3, .inl ⟨rfl, ⟨hI.putObj _ hi3 (by omega) hk3.rcd rfl, hk3.put _⟩, hr3⟩⟩
  | ret =>
   obtain ⟨ho, hi3⟩ := hp
   obtain ⟨hk3, hr3⟩ := fin (some .ret) ho
   exact ⟨_, _, end1 (some .ret) W3 hk3, .inr ⟨rfl, ⟨.ret, (hIx _).putObj _ hi3 (by omega) hk3.rcd rfl, hk3.put _⟩, hr3⟩⟩
  | exit id =>
   obtain ⟨ho, hi3⟩ := hp
   obtain ⟨hk3, hr3⟩ := fin (some (.exit id)) ho
   exact ⟨_, _, end1 (some (.exit id)) W3 hk3, .inr ⟨rfl, ⟨.exit id, (hIx _).putObj _ hi3 (by omega) hk3.rcd rfl, hk3.put _⟩, hr3⟩⟩
  | goto t =>
   obtain ⟨ho, hi3⟩ := hp
   obtain ⟨hk3, hr3⟩ := fin (some (.goto t)) ho
   exact ⟨_, _, end1 (some (.goto t)) W3 hk3, .inr ⟨rfl, ⟨.goto t, (hIx _).putObj _ hi3 (by omega) hk3.rcd rfl, hk3.put _⟩, hr3⟩⟩
  | panic ch => exact hp.elim
  | outgrown => exact hp.elim
 ·rintro e W2 ⟨⟨v, rfl⟩, (⟨xs, hS, hi, hk⟩ | ⟨pre, hSp, c, hi, hk⟩)⟩
  ·have hl := hk.rcd
   refine ⟨none, _, by have := run_endLoop (P := P) hl (by rw [hrec]; simp); rw [hrec] at this; exact this, ?_⟩
   exact hdone D xs _ (by omega) hS (hI.putObj _ hi (by omega) hl rfl) ((World.putObj_heap_other (by omega)).trans hk.dfr)
  ·have hl := hk.rcd
   refine ⟨some c, _, by have := run_endLoop (P := P) hl (by rw [hrec]; simp); rw [hrec] at this; exact this, ?_⟩
   exact hstop D c pre _ (by omega) hSp ((hIx c).putObj _ hi (by omega) hl rfl) ((World.putObj_heap_other (by omega)).trans hk.dfr)
theorem rcd_own {α : Type} {D : Nat} {I : List α → World → Prop} (hI : OwnFrom D I) (r : Loop) : OwnFrom (D + 1) (fun pre W => I pre W ∧ W.heap[D]? = some (.loop r)) :=
 fun s A C row hs hg hr => ⟨hI s A C row hs.1 hg (fun k e => ⟨by have := (hr k e).1; omega, (hr k e).2⟩), (hg.block _ (Array.getElem?_eq_some_iff.1 hs.2).1 (fun e => by have := (hr _ e.symm).1; omega)).trans hs.2⟩
theorem rnd_of1 {X : Nat → Obj → Prop} {W W2 : World} {D n : Nat} {r : Loop} (h : W.heap[D]? = some (.loop r)) (hn : D + 1 ≤ n) (rb rr : Loop) (hk : RndX X D (W.putObj D (.loop rb)) W2) : RndX X n W (W2.putObj D (.loop rr)) := by
 have hz : (W.putObj D (.loop rb)).heap.size = W.heap.size := by simp
 have h1 := hk.size
 rw [hz] at h1
 refine ⟨by simpa using h1, fun k o hnk hko hx => ?_, fun k o hko ho hxk => ?_⟩
 ·exact (World.putObj_heap_other (by omega)).trans (hk.new k o (by omega) ((World.putObj_heap_other (by omega)).trans hko) hx)
 ·have hne : k ≠ D := fun e => by
   subst e
   rw [h] at hko
   obtain rfl := sIj hko
   cases ho
  exact (World.putObj_heap_other hne).trans (hk.cells k o ((World.putObj_heap_other hne).trans hko) ho hxk)
theorem range_inE {α : Type} {g : Operand} {ps : Array Tmp} {assign body : Code} {Q : Exit → Act → World → Prop} {a : Act} {w : World} {l0 : Nat}
  (hl0 : ∃ r, w.heap[l0]? = some (.loop r)) (h1 : 1 ≤ n) {gf : Nat} {lb : Array Value} (hg : a.eval g = .func (.func gf) #[] lb) (eg : ∀ args w, (callFunc gf args).run P w = .ok (.enter gf args) w)
  {encs : α → Array Value} {X : Nat → Obj → Prop} {S Sp : List α → Prop} {Ex : Nat → α → World → Prop} {w0 : World} (hseq : StopsE (n - 1) P gf lb encs X S Sp Ex w0)
  (hb0 : Below w0.heap.size w0 w) (hps : ∀ x, (encs x).size = ps.size)
  (I : List α → World → Prop) (Ix : Code → List α → World → Prop) (hI : OwnFrom w.heap.size I) (hIx : ∀ c, OwnFrom w.heap.size (Ix c)) (h0 : I [] w)
  (hround : ∀ (l : Nat) (pre : List α) (x : α) (W : World) (n0 : Nat), w.heap.size ≤ l → w.heap.size ≤ n0 → I pre W → Sp (pre ++ [x]) → Ex n0 x W →
   assign.wpIn (Fence.wide.inRound l) (n - 1 - 1) P (Exit.then (fun a' w' => Below W.heap.size W w' ∧ ∀ W2, I pre W2 → SameCells w' W2 → (∃ r, W2.heap[l]? = some (.loop r)) → body.wpIn (Fence.wide.inRound l) (n - 1 - 1) P (postO X w.heap.size I Ix (pre ++ [x]) W2) a' W2) (fun _ _ _ => False))
    { tmps := (ps.zip (encs x)).foldl (fun t (p, v) => t.setIfInBounds p v) a.tmps, defers := [] } W)
  (hdone : ∀ (xs : List α) (W : World), S xs → I xs W → Q .normal a W)
  (hstop : ∀ (c : Code) (pre : List α) (W : World), Sp pre → Ix c pre W → c.wpIn (Fence.wide.inRound l0) n P Q a W) :
  (Code.rangeFunc g ps assign body).wpIn (Fence.wide.inRound l0) n P Q a w := by
 obtain ⟨r0, hl0⟩ := hl0
 refine wpIn_rangeFunc ?_
 intro fn hfn
 rw [show (Fence.wide.inRound l0).round = some l0 from rfl]
 obtain ⟨D, hD⟩ : ∃ D, D = w.heap.size := ⟨_, rfl⟩
 obtain ⟨rec, hrec⟩ : ∃ rec : LoopState → Option Code → Loop, rec = fun st pe => { state := st, pending := pe, fn, tmps := a.tmps, params := ps, assign, body, defers := r0.defers } := ⟨_, rfl⟩
 obtain ⟨W1, hW1⟩ : ∃ W1, w.alloc (.loop (rec .ready none)) = W1 := ⟨_, rfl⟩
 have hz1 : W1.heap.size = D + 1 := by rw [← hW1, hD]; simp
 have hbk : W1.heap[D]? = some (.loop (rec .ready none)) := by rw [← hW1, hD]; exact World.alloc_heap_new w _
 have hb1 : Below w0.heap.size w0 W1 := by
  rw [← hW1]; exact hb0.trans (((Below.refl _ w).alloc (Nat.le_refl _) _).mono hb0.size)
 have hI1 : I [] W1 := by rw [← hW1]; exact hI.alloc _ h0
 refine ⟨D, [], W1, { target := .fn (.func gf) lb, args := #[.func (.yield D) #[] #[]] }, W1, gf, #[.func (.yield D) #[] #[]] ++ lb, W1, ?_, ?_, fun _ _ => trivial, ?_, fun _ => h1, ?_⟩
 ·rw [← hW1, hrec, hD]; exact run_enterLoop_inner hl0 _ _ _ _ _
 ·simp only [resolve, hg]
  simp [go_sem]
 ·simp [invoke, go_sem, eg]
 rw [← hD] at hI hIx hround
 have end1 : ∀ (jump : Option Code) (W3 : World), W3.heap[D]? = some (.loop (rec .busy none)) →
   (Instr.endRound D jump).run P W3 = .ok (.bool jump.isNone) (W3.putObj D (.loop (rec (if jump.isNone then .ready else .done) jump))) := fun jump W3 hl3 => by
  rw [hrec] at hl3
  have := run_endRound (P := P) jump hl3
  rw [hrec]; exact this
 refine (CallsIn.inRound l0 (hseq D (fun pre W => I pre W ∧ W.heap[D]? = some (.loop (rec .ready none))) (fun pre W => ∃ c, Ix c pre W ∧ W.heap[D]? = some (.loop (rec .done (some c)))) W1 hb1
  (by rw [hz1]; exact rcd_own hI _) (fun s A C row hs hg' hr => ?_) ?_ ⟨hI1, hbk⟩)).mono ?_
 ·obtain ⟨c, hc, hk⟩ := hs
  exact ⟨c, rcd_own (hIx c) _ s A C row ⟨hc, hk⟩ hg' (by rw [hz1] at hr; exact hr)⟩
 ·rintro pre x W ⟨hi, hk⟩ hlen hex
  have hl := hk
  have hy := run_yield (P := P) (args := encs x) hl (by rw [hrec]; exact hps x)
  rw [hrec] at hy
  refine ⟨fn, _, assign, body, hy, roundIn_of_wpIn hfn (wpIn_mono (hround _ pre x W W1.heap.size (by omega) (by omega) hi hlen hex) ?_)⟩
  rintro e0 a0 Wa hp0
  cases e0 with
  | ret => exact hp0
  | exit id => exact hp0
  | goto t => exact hp0
  | panic ch => exact hp0
  | outgrown => exact hp0
  | normal =>
  obtain ⟨hba, hgo⟩ := hp0
  have hla : Wa.heap[D]? = some (.loop (rec .ready none)) := (hba.block _ (Array.getElem?_eq_some_iff.1 hk).1).trans hk
  have hia : I pre Wa := own_below hI hi hba
  refine ⟨_, run_beginRound hla (by rw [hrec]), ?_⟩
  have hstart : I pre (Wa.putObj D (.loop { rec .ready none with state := .busy })) := hI.putObj _ hia (by omega) hla rfl
  have hk2 : (Wa.putObj D (.loop { rec .ready none with state := .busy })).heap[D]? = some (.loop (rec .busy none)) := by
   have := World.putObj_heap_same (o := .loop { rec .ready none with state := .busy }) (Array.getElem?_eq_some_iff.1 hla).1
   rw [hrec] at this ⊢
   exact this
  have hsame : SameCells Wa (Wa.putObj D (.loop { rec .ready none with state := .busy })) := ⟨by simp, fun k o hko ho => by
   refine (World.putObj_heap_other (fun e => ?_)).trans hko
   subst e
   rw [hla] at hko
   obtain rfl := sIj hko
   cases ho⟩
  refine wpIn_mono (hgo _ hstart hsame ⟨_, hk2⟩) ?_
  rintro e a3 W3 hp
  have fin : ∀ (jump : Option Code), RndX X D (Wa.putObj D (.loop { rec .ready none with state := .busy })) W3 →
    W3.heap[D]? = some (.loop (rec .busy none)) ∧ RndX X W1.heap.size W (W3.putObj D (.loop (rec (if jump.isNone then .ready else .done) jump))) :=
   fun jump h => ⟨h.new _ _ (Nat.le_refl _) hk2 (fun e => by cases e), (RndX.of_below hba).trans (rnd_of1 hla (by omega) _ _ h)⟩
  cases e with
  | normal =>
   obtain ⟨ho, hi3⟩ := hp
   obtain ⟨hk3, hr3⟩ := fin none ho
   exact ⟨_, _, end1 none W3 hk3, .inl ⟨rfl, ⟨hI.putObj _ hi3 (by omega) hk3 rfl, World.putObj_heap_same (Array.getElem?_eq_some_iff.1 hk3).1⟩, hr3⟩⟩
  | ret =>
   obtain ⟨ho, hi3⟩ := hp
   obtain ⟨hk3, hr3⟩ := fin (some .ret) ho
   exact ⟨_, _, end1 (some .ret) W3 hk3, .inr ⟨rfl, ⟨.ret, (hIx _).putObj _ hi3 (by omega) hk3 rfl, World.putObj_heap_same (Array.getElem?_eq_some_iff.1 hk3).1⟩, hr3⟩⟩
  | exit id =>
   obtain ⟨ho, hi3⟩ := hp
   obtain ⟨hk3, hr3⟩ := fin (some (.exit id)) ho
   exact ⟨_, _, end1 (some (.exit id)) W3 hk3, .inr ⟨rfl, ⟨.exit id, (hIx _).putObj _ hi3 (by omega) hk3 rfl, World.putObj_heap_same (Array.getElem?_eq_some_iff.1 hk3).1⟩, hr3⟩⟩
  | goto t =>
   obtain ⟨ho, hi3⟩ := hp
   obtain ⟨hk3, hr3⟩ := fin (some (.goto t)) ho
   exact ⟨_, _, end1 (some (.goto t)) W3 hk3, .inr ⟨rfl, ⟨.goto t, (hIx _).putObj _ hi3 (by omega) hk3 rfl, World.putObj_heap_same (Array.getElem?_eq_some_iff.1 hk3).1⟩, hr3⟩⟩
  | panic ch => exact hp.elim
  | outgrown => exact hp.elim
 ·rintro e W2 ⟨⟨v, rfl⟩, (⟨xs, hS, hi, hk⟩ | ⟨pre, hSp, c, hi, hk⟩)⟩
  ·refine ⟨none, _, by have := run_endLoop (P := P) hk (by rw [hrec]; simp); rw [hrec] at this; exact this, ?_⟩
   exact hdone xs _ hS (hI.putObj _ hi (by omega) hk rfl)
  ·refine ⟨some c, _, by have := run_endLoop (P := P) hk (by rw [hrec]; simp); rw [hrec] at this; exact this, ?_⟩
   exact hstop c pre _ hSp ((hIx c).putObj _ hi (by omega) hk rfl)
section
set_option maxHeartbeats 32000000
open Go.RowKit Go.Shelf
set_option linter.unusedSimpArgs false
set_option maxRecDepth 100000
attribute [local go_sem] Oper.semAt_some
theorem allI_any (w : World) (S : Nat) (v : Value) (ps : List (KV Int)) (h : ShIAt w S v ps) (hl : ps.length ≤ 1000000) :
  Calls Tryz.prog 80 #[.pointer (some ⟨S, 0, none⟩)] w (OverTo w ps) := by
 have HC := hdL (clonep_any w S v ps h hl)
 obtain ⟨a, c, rfl⟩ := owns_form h.row
 have k0 := cOh h.cells 0
 clear h
 go_enter Tryz.func80, Tryz.ntmps80
 go_wp2_with fail
 refine HC.out.mono ?_
 rintro e w1 ⟨v', rfl, h1, h2⟩
 obtain ⟨a', c', rfl⟩ := owns_form h1
 have H1 := hdL h1; have H2 := hdL h2; clear h1 h2 k0
 go_wp2_with fail
 refine (overI_any w1 _ a' ps.length c' rfl).mono ?_
 rintro e w3 ⟨rfl, e3⟩
 have E3 := hdL e3; clear e3
 go_wp2_with fail
 go_ret
 have hb : Below w1.heap.size w1 w3 := by rw [E3.out]; exact (Below.refl _ w1).alloc (Nat.le_refl _) _
 have hC : w3.heap[w1.heap.size]? = some (.cells #[.slice a' ps.length c'] 182 (0, 0)) := by rw [E3.out]; exact heap_alloc_new w1 _
 have hrow : w3.ownsRow w.heap.size 185 10 (.slice a' ps.length c') ps.length (rowsV kInt ps) := by rw [E3.out]; exact World.ownsRow.alloc H1.out _
 exact ⟨w1.heap.size, a', c', rfl, hC, hrow, H2.out.size, H2.out.trans (hb.mono H2.out.size)⟩
def ptrV (p : KV (List UInt8)) : Value := p.2.headD (.pointer none)
def encS (p : KV (List UInt8)) : Array Value := #[strV p.1, ptrV p]
def CloneS (w : World) (ps : List (KV (List UInt8))) (e : Ending) (w' : World) : Prop := ∃ v', e = .returned v' ∧ w'.ownsRow w.heap.size 180 2 v' ps.length (rowsV kStr ps) ∧ Below w.heap.size w w'
theorem src_rowsS {w : World} {S : Nat} {v : Value} {ps : List (KV (List UInt8))} (h : ShSAt w S v ps) (hl : ps.length ≤ 1000000) : Src Tryz.prog 2 153 v ps.length (rowsV kStr ps) w := by
 obtain ⟨a, c, rfl, hb, hc⟩ := owns_shape h.row (by omega)
 cases a with
 | none =>
  obtain ⟨e1, rfl⟩ := hb.nil rfl
  obtain rfl : ps = [] := eN0 e1
  exact Src.ofNil w Tryz.underlying153 0
 | some ad =>
  refine Src.ofSlice w Tryz.underlying153 ad ps.length c (rowsV kStr ps) (rowsV_length kStr h.wid) (fun j u hj => ?_) (rowsV_one kStr h.wid)
  have hne : ps.length ≠ 0 := fun e => by
   obtain rfl := eN0 e
   simp [rowsV] at hj
  obtain ⟨g, e, _, _, h3⟩ := hc hne
  obtain rfl := sIj e
  rw [Addr.add_lit, Nat.zero_add]
  exact h3 j u hj
theorem clones_any (w : World) (S : Nat) (v : Value) (ps : List (KV (List UInt8))) (h : ShSAt w S v ps) (hl : ps.length ≤ 1000000) :
  Calls Tryz.prog 121 #[v] w (CloneS w ps) := by
 have hq := fun (w : World) (a : Option Addr) (n c : Nat) => Lib.run_eql_slice_nil (P := Tryz.prog) w 153 180 a n c 0 0 Tryz.underlying153
 obtain ⟨a, c, rfl, hb, -⟩ := owns_shape h.row (by omega)
 cases a with
 | none =>
  obtain ⟨h1, rfl⟩ := hb.nil rfl
  obtain rfl : ps = [] := eN0 h1
  clear h hb h1
  go_enter Tryz.func121, Tryz.ntmps121
  go_wp2
  go_ret
  exact ⟨.slice none 0 0, rfl, World.ownsRow_nil _ _ _ _, Below.refl _ _⟩
 | some ad =>
  have hb1 : Below w.heap.size w (w.alloc (.cells #[] 180)) := (Below.refl _ w).alloc (Nat.le_refl _) _
  have hsrc := src_rowsS (h.below hb1) hl
  obtain ⟨i0, hi, hz0, hz1, hz2⟩ := info_parts infoPairS
  have HB1 := hdL hb1; have HL := hdL hl
  obtain ⟨n, hn⟩ : ∃ n, n = ps.length := ⟨_, rfl⟩
  rw [← hn] at hsrc hl ⊢
  unfold CloneS
  rw [← hn]
  have HN := hdL hn
  clear h hb1 hb hn
  go_enter Tryz.func121, Tryz.ntmps121
  go_wp2_with (at_builtin; refine wpList_append_srcs rfl (.tmp 5) (.tmp 6) 153 153 rfl w.heap.size 180 i0 _ 2 24 Tryz.underlying153 hi hz0 hz1 hz2 rfl (by decide) (.slice (some ⟨w.heap.size, 0, none⟩) 0 0) rfl 0 [] (owns_none w 180 2 (by decide)) (.slice (some ad) n c) rfl _ _ hsrc (by unfold maxLen; omega) (by omega) (by simp) ?_; intro a' c' w' hown hgrow hnil _; simp only [Nat.zero_add, List.nil_append] at hown)
  go_wp2
  go_ret
  exact ⟨_, rfl, hown, HB1.out.grown hgrow HB1.out.size (fun k e => Nat.le_of_eq (show w.heap.size = k from sIj e))⟩
theorem overS_any (w : World) (v : Value) (a : Option Addr) (l c : Nat) (hv : v = .slice a l c) :
  Calls Tryz.prog 120 #[v] w fun e w' => e = .returned (.func (.func 152) #[] #[.pointer (some ⟨w.heap.size, 0, none⟩)]) ∧ w' = w.alloc (.cells #[v] 153) := by
 subst hv
 go_enter Tryz.func120, Tryz.ntmps120
 go_wp2
 go_ret
 exact ⟨rfl, rfl⟩
def OverToS (w : World) (ps : List (KV (List UInt8))) (e : Ending) (w' : World) : Prop :=
 ∃ C a c, e = .returned (.func (.func 152) #[] #[.pointer (some ⟨C, 0, none⟩)]) ∧ w'.heap[C]? = some (.cells #[.slice a ps.length c] 153 (0, 0)) ∧ w'.ownsRow w.heap.size 180 2 (.slice a ps.length c) ps.length (rowsV kStr ps) ∧ w.heap.size ≤ C ∧ Below w.heap.size w w'
theorem allS_any (w : World) (S : Nat) (v : Value) (ps : List (KV (List UInt8))) (h : ShSAt w S v ps) (hl : ps.length ≤ 1000000) :
  Calls Tryz.prog 79 #[.pointer (some ⟨S, 0, none⟩)] w (OverToS w ps) := by
 have HC := hdL (clones_any w S v ps h hl)
 obtain ⟨a, c, rfl⟩ := owns_form h.row
 have k0 := cOh h.cells 0
 clear h
 go_enter Tryz.func79, Tryz.ntmps79
 go_wp2_with fail
 refine HC.out.mono ?_
 rintro e w1 ⟨v', rfl, h1, h2⟩
 obtain ⟨a', c', rfl⟩ := owns_form h1
 have H1 := hdL h1; have H2 := hdL h2; clear h1 h2 k0
 go_wp2_with fail
 refine (overS_any w1 _ a' ps.length c' rfl).mono ?_
 rintro e w3 ⟨rfl, e3⟩
 have E3 := hdL e3; clear e3
 go_wp2_with fail
 go_ret
 have hb : Below w1.heap.size w1 w3 := by rw [E3.out]; exact (Below.refl _ w1).alloc (Nat.le_refl _) _
 have hC : w3.heap[w1.heap.size]? = some (.cells #[.slice a' ps.length c'] 153 (0, 0)) := by rw [E3.out]; exact heap_alloc_new w1 _
 have hrow : w3.ownsRow w.heap.size 180 2 (.slice a' ps.length c') ps.length (rowsV kStr ps) := by rw [E3.out]; exact World.ownsRow.alloc H1.out _
 exact ⟨w1.heap.size, a', c', rfl, hC, hrow, H2.out.size, H2.out.trans (hb.mono H2.out.size)⟩
theorem overS_stops (n C : Nat) (c : Nat) (a : Option Addr) (ps : List (KV (List UInt8))) (w : World) (X : Nat → Obj → Prop) (hn : 1 ≤ n) (hl : ps.length ≤ 1000000) (hw : WidK 2 ps) (hsh : ∀ p ∈ ps, ∃ s, p.2 = [.pointer (some ⟨s, 0, none⟩)]) (hC : w.heap[C]? = some (.cells #[.slice a ps.length c] 153 (0, 0))) (base : Nat) (hr : w.ownsRow base 180 2 (.slice a ps.length c) ps.length (rowsV kStr ps)) (hg : ∀ b c f, ¬ X b (.cells c 180 f)) :
  StopsO n Tryz.prog 152 #[.pointer (some ⟨C, 0, none⟩)] encS X (fun ys => ys = ps) (fun pre => pre <+: ps) w := by
 intro l J Jx W hW hJ hJx hY h0
 have hC' := cOh ((hW.block C (loh hC)).trans hC) 0
 have HW := hdL hw; have HSH := hdL hsh
 have hrow : ps ≠ [] → ∃ b cur, a = some ⟨b, 0, none⟩ ∧ W.heap[b]? = some (.cells cur 180 (0, 0)) := by
  intro hne
  rcases hr.2 with ⟨_, e2⟩ | ⟨g, cap, cur, e1, _, hgb, _⟩
  ·exact absurd (eN0 e2) hne
  ·obtain ⟨rfl, _, _⟩ := Value.slice.inj e1
   exact ⟨g, cur, rfl, (hW.block g (loh hgb)).trans hgb⟩
 have HROW := hdL hrow
 have HR := hdL ((RdK.of_owns hw (by decide) hr).below hW); have HJ := hdL hJ; have HG := hdL hg
 clear hC hr hW hJ hJx hg hw hsh hrow
 refine callsIn_of_wp Tryz.func152 rfl trivial ?_ rfl
 simp only [Tryz.ntmps152, List.size_toArray, List.length_cons, List.length_nil, Nat.reduceAdd, Nat.reduceSub, Array.replicate_succ, Array.replicate_zero, List.push_toArray, List.append_toArray, List.nil_append, List.cons_append]
 gi_wp2
 gi_loopw [7] (fun i wr => ∃ k : Nat, k ≤ ps.length ∧ i = .int .i64 k ∧ Hid (J (ps.take k) wr) ∧ Hid (∀ b, a = some ⟨b, 0, none⟩ → ps ≠ [] → wr.heap[b]? = W.heap[b]?)) (fun i _ => ps.length - (intOf i).toNat)
 case atStart => exact ⟨0, Nat.zero_le _, rfl, h0, fun _ _ _ => rfl⟩
 case round =>
  obtain ⟨k, hk, rfl, hJs, hnx⟩ := hrel
  by_cases hlt : k < ps.length
  ·have hne : ps ≠ [] := by intro e; rw [e] at hlt; exact absurd hlt (Nat.not_lt_zero _)
   obtain ⟨b, rfl, hb, hc⟩ := HR.out hne
   obtain ⟨p, hp⟩ : ∃ p, ps[k]? = some p := ⟨_, gEg hlt⟩
   have hpre : ps.take k ++ [p] <+: ps := by
    have : ps.take (k + 1) = ps.take k ++ [p] := by rw [List.take_add_one, hp]; rfl
    rw [← this]
    exact List.take_prefix _ _
   obtain ⟨sq, hval⟩ := HSH.out p (List.mem_of_getElem? hp)
   have HPRE := hdL hpre; have HP := hdL hp
   have hblk := hnx.out b rfl hne
   have keep : ∀ j u, (rowV kStr p)[j]? = some u → wr.cell? ⟨b, k * 2 + j, none⟩ = some u := fun j u hj => (World.cell?_of_block (a := ⟨b, k * 2 + j, none⟩) hblk).trans (hc k p hp j u hj)
   obtain ⟨pk, pl⟩ := p
   dsimp only at hval
   subst hval
   obtain ⟨T, -, hT, -, -⟩ := strV_is pk
   have c0 : wr.cell? ⟨b, k * 2, none⟩ = some (.string T) := by rw [← hT]; exact keep 0 _ rfl
   have c1 : wr.cell? ⟨b, k * 2 + 1, none⟩ = some (.pointer (some ⟨sq, 0, none⟩)) := keep 1 _ rfl
   obtain ⟨b2, cur, eb, hob⟩ := HROW.out hne
   obtain rfl : b = b2 := by injection eb with eb; injection eb
   have hbw : b < wr.heap.size := cell_lt c0
   have hJa : J (ps.take k) (wr.alloc (.cells #[.string T, .pointer (some ⟨sq, 0, none⟩)] 180)) := OwnFrom.alloc HJ.out _ hJs.out
   have HBL := hdL hblk; have HNE := hdL hne; have HOB := hdL hob
   obtain ⟨fn, tmps, assign, body, hy, hR⟩ := hY (ps.take k) _ _ hJa HPRE.out
   unfold encS ptrV at hy
   dsimp only [List.headD] at hy
   rw [hT] at hy
   clear hc hblk hp hJa hne keep hob hpre eb hT
   gi_wp2
   refine hR.mono ?_
   rintro e W3 (⟨rfl, hJ3, hk3⟩ | ⟨rfl, hJx3, -⟩)
   ·have HJ3 := hdL hJ3; have HK3 := hdL hk3; clear hJ3 hk3
    gi_wp2
    go_roundw
    case rel =>
     refine ⟨k + 1, by omega, by go_num, ?_, fun b' e' hne => ?_⟩
     ·rw [List.take_add_one, HP.out]; exact HJ3.out
     ·have ho1 := HBL.out.trans HOB.out
      obtain rfl : b = b' := by injection e' with e'; injection e'
      have h1 : (wr.alloc (.cells #[.string T, .pointer (some ⟨sq, 0, none⟩)] 180)).heap[b]? = some (.cells cur 180 (0, 0)) := (Below.heap_alloc wr _ b hbw).trans ho1
      have h2 := HK3.out.cells b _ h1 rfl (HG.out b cur (0, 0))
      rw [h2, HOB.out]
    case measure => simp [intOf]; omega
   ·have HJX := hdL hJx3; clear hJx3
    gi_wp2
    refine bodyPost_ret (results_none rfl _ _ _) rfl ?_
    exact ⟨⟨_, rfl⟩, .inr ⟨_, HPRE.out, HJX.out⟩⟩
  ·obtain rfl : k = ps.length := by omega
   gi_wp2
   go_end0
   have := hJs.out
   rw [List.take_length] at this
   exact ⟨⟨_, rfl⟩, .inl ⟨_, rfl, this⟩⟩
theorem enters_overS : ∀ (args : Array Value) (w : World), (callFunc 152 args).run Tryz.prog w = .ok (.enter 152 args) w := enters_of Tryz.func152 (by kernel_rfl) rfl
end
section
set_option maxHeartbeats 32000000
open Go.RowKit Go.Shelf
set_option linter.unusedSimpArgs false
set_option maxRecDepth 100000
variable {Y : Zone}
attribute [local go_sem] Oper.semAt_some
def keysE (n : List UInt8) (ks : List Int) : List Pk := ks.map fun k => (n, verOf k)
theorem keysE_app (n : List UInt8) (a b : List Int) : keysE n (a ++ b) = keysE n a ++ keysE n b := by simp [keysE]
def keysT (T : Tb) : List Pk := T.flatMap fun x => keysE x.1 (x.2.map Prod.fst)
theorem keysT_all {T : Tb} {s : St} (h : TabT T s) (ho : s.Ok) : keysT T = s.all := by
 refine srtP_ext ?_ (sortP_srt _) (fun p => ?_)
 ·refine List.pairwise_flatMap.2 ⟨fun x hx => ?_, h.srt.imp (fun {a b} hab p hp q hq => ?_)⟩
  ·unfold keysE
   rw [List.map_map, List.pairwise_map]
   refine List.Pairwise.imp_of_mem (fun {a b} ha hb hab => ?_) (h.inner x.1 x.2 hx)
   have h1 := (h.iff x.1 a.1 a.2).1 ⟨x.2, hx, ha⟩
   have h2 := (h.iff x.1 b.1 b.2).1 ⟨x.2, hx, hb⟩
   obtain ⟨g1, e1⟩ := verOf_good h1.1 h1.2.1
   obtain ⟨g2, e2⟩ := verOf_good h2.1 h2.2.1
   show pkLt (x.1, verOf a.1) (x.1, verOf b.1) = true
   unfold pkLt
   rw [if_pos rfl]
   show verLt (verOf a.1) (verOf b.1) = true
   rw [verLt_num g1 g2, e1, e2]
   exact decide_eq_true hab
  ·unfold keysE at hp hq
   obtain ⟨k, _, rfl⟩ := List.mem_map.1 hp
   obtain ⟨m, _, rfl⟩ := List.mem_map.1 hq
   unfold pkLt
   rw [if_neg (less_ne hab)]
   exact hab
 ·unfold keysT keysE
  rw [List.mem_flatMap, St.mem_all]
  constructor
  ·rintro ⟨x, hx, hp⟩
   obtain ⟨k, hk, rfl⟩ := List.mem_map.1 hp
   obtain ⟨y, hy, rfl⟩ := List.mem_map.1 hk
   have h1 := (h.iff x.1 y.1 y.2).1 ⟨x.2, hx, hy⟩
   unfold St.pkgs
   rcases h1.2.2 with ⟨_, h2⟩ | ⟨r, hr, _, h2⟩
   ·exact List.mem_append_left _ h2
   ·exact List.mem_append_right _ (List.mem_map.2 ⟨r, hr, h2⟩)
  ·intro hp
   have hh : (s.ent p).isSome = true := by rw [ent_has]; exact St.has_iff.2 hp
   obtain ⟨e, he⟩ := Option.isSome_iff_exists.1 hh
   obtain ⟨L, hL, hx⟩ := (h.iff _ _ _).2 ((entOf_iff ho).2 he)
   refine ⟨(p.1, L), hL, List.mem_map.2 ⟨verNum p.2, List.mem_map.2 ⟨_, hx, rfl⟩, ?_⟩⟩
   show (p.1, verOf (verNum p.2)) = p
   rw [verOf_num (ho.good p hp)]
def outE (es : List E) : List Pk := es.flatMap fun e => keysE e.name (e.rows.map Prod.fst)
theorem outE_app (a b : List E) : outE (a ++ b) = outE a ++ outE b := by simp [outE]
theorem outE_one (e : E) : outE [e] = keysE e.name (e.rows.map Prod.fst) := by simp [outE]
theorem outE_all {w : World} {B N : Nat} {vN : Value} {es : List E} {st : St} {ns nr : Nat} (h : StkIn Y w B N vN es st ns nr) : outE es = st.all := by
 rw [← keysT_all h.tab h.ok]
 unfold outE keysT tabOf
 rw [List.flatMap_map]
 rw [List.flatMap_def, List.flatMap_def]
 refine congrArg List.flatten (List.map_congr_left fun e he => ?_)
 rw [rowsL_keys (h.each e he).2]
theorem out_pre {es : List E} {k : Nat} {e : E} (he : es[k]? = some e) {ks : List Int} (hk : ks <+: e.rows.map Prod.fst) : outE (es.take k) ++ keysE e.name ks <+: outE es := by
 obtain ⟨r, hr⟩ := hk
 have h1 : es = es.take k ++ ([e] ++ es.drop (k + 1)) := by
  have hl := (gEs.1 he).1
  conv => lhs; rw [← List.take_append_drop k es, List.drop_eq_getElem_cons hl, (gEs.1 he).2]
  rfl
 conv => rhs; rw [h1]
 rw [outE_app, outE_app, outE_one, ← hr, keysE_app]
 exact ⟨keysE e.name r ++ outE (es.drop (k + 1)), by simp only [List.append_assoc]⟩
theorem out_next {es : List E} {k : Nat} {e : E} (he : es[k]? = some e) : outE (es.take (k + 1)) = outE (es.take k) ++ keysE e.name (e.rows.map Prod.fst) := by
 rw [List.take_add_one, he, outE_app]
 show _ ++ outE [e] = _
 rw [outE_one]
theorem ptrs_at {es : List E} {pre : List (KV (List UInt8))} {x : KV (List UInt8)} (h : pre ++ [x] <+: ptrs es) : ∃ e, es[pre.length]? = some e ∧ x = (e.name, [.pointer (some ⟨e.S, 0, none⟩)]) := by
 have h1 : (ptrs es)[pre.length]? = some x := by
  obtain ⟨r, hr⟩ := h
  rw [← hr, List.append_assoc, List.getElem?_append_right (Nat.le_refl _), Nat.sub_self]
  rfl
 unfold ptrs at h1
 rw [List.getElem?_map] at h1
 cases he : es[pre.length]? with
 | none => rw [he] at h1; cases h1
 | some e => rw [he] at h1; exact ⟨e, rfl, (sIj h1).symm⟩
theorem ShIAt.keepX {X : Nat → Obj → Prop} {A B : World} {S : Nat} {v : Value} {ps : List (KV Int)} (h : ShIAt A S v ps) (hc : CellsX X A B) (hx : ∀ k ∈ shFoot S v, ∀ o, ¬ X k o) : ShIAt B S v ps := by
 refine h.keep fun k hk => ?_
 have key : ∃ o, A.heap[k]? = some o ∧ o.isCells = true := by
  unfold shFoot at hk
  rcases List.mem_cons.1 hk with rfl | hk
  ·exact ⟨_, h.cells, rfl⟩
  ·rcases h.row.2 with ⟨e, _⟩ | ⟨g, cap, cur, e, _, hg, _⟩
   ·rw [e] at hk; cases hk
   ·rw [e] at hk
    obtain rfl : k = g := by simpa [Value.ownBlock] using hk
    exact ⟨_, hg, rfl⟩
 obtain ⟨o, h1, h2⟩ := key
 exact (hc.cells k o h1 h2 (hx k hk o)).trans h1.symm
theorem allf_any (w : World) (B : Nat) :
  Calls Tryz.prog 45 #[.pointer (some ⟨B, 0, none⟩)] w fun e w' => e = .returned (.func (.func 78) #[] #[.pointer (some ⟨w.heap.size, 0, none⟩)]) ∧ w' = w.alloc (.cells #[.pointer (some ⟨B, 0, none⟩)] 27) := by
 go_enter Tryz.func45, Tryz.ntmps45
 go_wp2
 go_ret
 exact ⟨rfl, rfl⟩
theorem enters_all : ∀ (args : Array Value) (w : World), (callFunc 78 args).run Tryz.prog w = .ok (.enter 78 args) w := enters_of Tryz.func78 (by kernel_rfl) rfl
theorem all_stops (n : Nat) (hn : 6 ≤ n) (w : World) (B : Nat) (F : List Nat) (st : St) (h : StkAtY Y w B F st) (C1 : Nat) (hC1 : w.heap[C1]? = some (.cells #[.pointer (some ⟨B, 0, none⟩)] 27 (0, 0)))
  (X : Nat → Obj → Prop) (hF : ∀ b ∈ F, ∀ o, ¬ X b o) (hXP : ∀ b c f, ¬ X b (.cells c 185 f)) (hXQ : ∀ b c f, ¬ X b (.cells c 180 f)) (hXS : ∀ b c f, ¬ X b (.cells c 9 f)) (hXY : ∀ b c f, ¬ X b (.cells c 46 f)) :
  StopsO n Tryz.prog 78 #[.pointer (some ⟨C1, 0, none⟩)] encPk X (fun ys => ys = st.all) (fun pre => pre <+: st.all) w := by
 intro l J Jx W hW hJ hJx hY h0
 obtain ⟨N, vN, es, hFe, hi⟩ := h
 have hall := outE_all hi
 obtain ⟨W1, hW1, hb1, hx1, y1, y2⟩ := one_block W (.func (.yield l) #[] #[]) 46
 obtain ⟨By, hBy⟩ : ∃ b, W.heap.size = b := ⟨_, rfl⟩
 rw [hBy] at hx1
 have hi1 := (hi.keep hW.size hW.block).keep hb1.size hb1.block
 have hc1 := (hb1.block _ (Nat.lt_of_lt_of_le (loh hC1) hW.size)).trans ((hW.block _ (loh hC1)).trans hC1)
 have hJ1 : J [] W1 := own_below hJ h0 hb1
 have hle : (ptrs es).length ≤ 1000 := by unfold ptrs; rw [List.length_map]; have := hi1.many.1; have := hi1.few; omega
 have hA := fun V (hV : Below W1.heap.size W1 V) => allS_any V N vN (ptrs es) (hi1.names.below hV) (by omega)
 have hEI := fun V (hV : CellsX X W1 V) e (he : e ∈ es) => allI_any V e.S e.v e.rows (((hi1.each e he).1).keepX hV (fun k hk o => hF k (by rw [hFe]; exact foot_mem he hk) o)) (by have := hi1.many.2 e he; have := hi1.few; omega)
 have hES := fun e (he : e ∈ es) => (show WidK 10 e.rows ∧ (∀ p ∈ e.rows, Shp p.2) ∧ e.rows.length ≤ 1000000 ∧ ∀ p ∈ e.rows, 0 ≤ p.1 ∧ p.1 < 1000000000 from by
  obtain ⟨hs, hr⟩ := hi1.each e he
  have hT : (e.name, e.L) ∈ tabOf es := List.mem_map.2 ⟨e, he, rfl⟩
  have hm := hi1.many.2 e he
  have hf := hi1.few
  refine ⟨hs.wid, (fun p hp => by obtain ⟨en, _, hv⟩ := rows_mem hr (k := p.1) (l := p.2) hp; exact hv.shp), by omega, fun p hp => ?_⟩
  have hk : p.1 ∈ e.L.map Prod.fst := by
   rw [← rowsL_keys hr]
   exact List.mem_map.2 ⟨p, hp, rfl⟩
  obtain ⟨x, hx, hxp⟩ := List.mem_map.1 hk
  have := (hi1.tab.iff e.name x.1 x.2).1 ⟨e.L, hT, hx⟩
  rw [hxp] at this
  exact ⟨this.1, this.2.1⟩)
 have hsp : ∀ p ∈ ptrs es, ∃ s, p.2 = [.pointer (some ⟨s, 0, none⟩)] := fun p hp => by
  obtain ⟨e, _, rfl⟩ := List.mem_map.1 hp
  exact ⟨e.S, rfl⟩
 have hwid := hi1.names.wid
 have k0 := cOh hc1 0
 have k1 := cOh hi1.cells 0
 have HA := hdL hA; have HEI := hdL hEI; have HES := hdL hES; have HX1 := hdL hx1; have HJ1 := hdL hJ1; have HSP := hdL hsp; have HWID := hdL hwid; have HLE := hdL hle
 have HJ := hdL hJ; have HJX := hdL hJx; have HY := hdL hY; have HXP := hdL hXP; have HXQ := hdL hXQ; have HXS := hdL hXS; have HXY := hdL hXY; have HALL := hdL hall
 have HSZ := hdL (show w.heap.size ≤ By ∧ W.heap.size = By ∧ W1.heap.size = By + 1 from by have := hW.size; omega)
 clear h0 hFe hi hC1 hi1 hc1 hJ1 hA hEI hES hJ hJx hY hXP hXQ hXS hXY hF hb1 hx1 y1 y2 hW hall hsp hwid hle
 refine callsIn_wide.2 (calls_of_wp_marks Tryz.func78 rfl ?_)
 simp only [Tryz.ntmps78, List.size_toArray, List.length_cons, List.length_nil, Nat.reduceAdd, Nat.reduceSub, Array.replicate_succ, Array.replicate_zero, List.push_toArray, List.append_toArray, List.nil_append, List.cons_append]
 go_wp2_with fail
 refine (HA.out _ (Below.refl _ _)).mono ?_
 rintro e w4 ⟨C, a', c', rfl, o1, o2, o3, o5⟩
 have hz14 := o5.size
 have hJ4 : J [] w4 := own_below HJ.out HJ1.out o5
 have hx4 := (o5.block _ (loh HX1.out)).trans HX1.out
 have hsz := HSZ.out
 have hst := (overS_stops 5 C c' a' (ptrs es) w4 X (by omega) (by have := HLE.out; omega) HWID.out HSP.out o1 _ o2 HXQ.out).toE
 have HST := hdL hst; have HX4 := hdL hx4; have HJ4 := hdL hJ4; have HW4 := hdL (show W.heap.size ≤ w4.heap.size ∧ By < w4.heap.size ∧ W1.heap.size ≤ w4.heap.size from by omega)
 have HC14 := hdL ((CellsX.refl X W1).below o5)
 clear o1 o2 o3 o5 hz14 hJ4 hx4 hsz hst k0 k1
 go_wp2_with fail
 refine (wpIn_wide (n := 6)).1 ?_
 refine range_wideE (n := 6) (by omega) (gf := 152) (lb := #[.pointer (some ⟨C, 0, none⟩)]) rfl enters_overS HST.out (Below.refl _ _) (fun _ => rfl)
  (fun pre V => J (outE (es.take pre.length)) V ∧ CellsX X w4 V) (fun c pre V => c = .ret ∧ ∃ ys, ys <+: st.all ∧ Jx ys V)
  (fun s P Q row hs hg hr => ⟨HJ.out _ P Q row hs.1 hg (fun k e => ⟨Nat.le_trans HW4.out.1 (hr k e).1, (hr k e).2⟩), cellsX_own (Nat.le_refl _) s P Q row hs.2 hg hr⟩)
  (fun c s P Q row hs hg hr => ⟨hs.1, by obtain ⟨ys, h1, h2⟩ := hs.2; exact ⟨ys, h1, HJX.out _ P Q row h2 hg (fun k e => ⟨Nat.le_trans HW4.out.1 (hr k e).1, (hr k e).2⟩)⟩⟩)
  ⟨HJ4.out, CellsX.refl _ _⟩ ?round ?done ?stop
 case round =>
  rintro l2 pre x Wr n0 hl2 hn0 - hpre -
  obtain ⟨e0, he0, rfl⟩ := ptrs_at hpre
  obtain ⟨T, -, hT, -, -⟩ := strV_is e0.name
  obtain ⟨k, hk⟩ : ∃ k, k = pre.length := ⟨_, rfl⟩
  rw [← hk] at he0
  have hem := List.mem_of_getElem? he0
  obtain ⟨r1, r2, r3, r4⟩ := HES.out e0 hem
  have HE0 := hdL he0; have HEM := hdL hem; have HT := hdL hT; have HK := hdL hk; have R1 := hdL r1; have R2 := hdL r2; have R4 := hdL r4
  unfold encS ptrV
  dsimp only [List.headD]
  rw [hT]
  clear he0 hem hT r1 r2 r4 hpre hk
  gi_wp2
  refine ⟨(Below.refl _ _).alloc (Nat.le_refl _) _, ?_⟩
  rintro W2 ⟨hj, hcx⟩ hsame hl3
  have hnm := hsame.heap (heap_alloc_new Wr (.cells #[.string T] 9))
  obtain ⟨Bn, hBn⟩ : ∃ b, Wr.heap.size = b := ⟨_, rfl⟩
  rw [hBn] at hnm ⊢
  have hcw : CellsX X W1 W2 := ⟨Nat.le_trans HC14.out.size hcx.size, fun k o hk ho hx => hcx.cells k o (HC14.out.cells k o hk ho hx) ho hx⟩
  have hall := HEI.out W2 hcw e0 HEM.out
  have h1n : 1 ≤ 6 - 1 - 1 := by decide
  have HNM := hdL hnm; have HCX := hdL hcx; have HJr := hdL hj; have HALLI := hdL hall; have HL3 := hdL hl3
  clear hnm hcx hj hall hl3 hsame hcw
  gi_wp2
  refine ⟨trivial, ?_⟩
  refine (CallsIn.inRound l2 ((callsIn_wide (n := 3)).2 HALLI.out)).mono ?_
  rintro e W3 ⟨C3, a3, c3, rfl, o1, o2, o3, o5⟩
  have hst := (overI_stops 3 C3 c3 a3 e0.rows W3 X (by omega) r3 R1.out R2.out o1 _ o2 HXP.out).toE
  have hl4 : ∃ r, W3.heap[l2]? = some (.loop r) := by
   obtain ⟨r, hr⟩ := HL3.out
   exact ⟨r, (o5.block _ (loh hr)).trans hr⟩
  have HST3 := hdL hst; have HL4 := hdL hl4; have H23 := hdL o5
  have HJ3 := hdL (own_below HJ.out HJr.out o5); have HNM3 := hdL ((o5.block _ (loh HNM.out)).trans HNM.out)
  have HZ3 := hdL (show W.heap.size ≤ W3.heap.size ∧ w4.heap.size ≤ W3.heap.size ∧ Bn < W3.heap.size from by have h1 := loh HNM.out; have h2 := HCX.out.size; have h3 := HW4.out; have h4 := o5.size; omega)
  have HRND3 := hdL (RndX.of_below (X := X) (n := w4.heap.size) o5)
  have HCX3 := hdL (HCX.out.below o5)
  clear o1 o2 o3 o5 hst hl4
  gi_wp2
  refine range_inE (n := 4) HL4.out (by omega) (gf := 153) (lb := #[.pointer (some ⟨C3, 0, none⟩)]) rfl enters_overI HST3.out (Below.refl _ _) (fun _ => rfl)
   (fun pre2 V => J (outE (es.take k) ++ keysE e0.name (pre2.map Prod.fst)) V ∧ RndX X w4.heap.size W2 V ∧ CellsX X w4 V ∧ V.heap[Bn]? = some (.cells #[.string T] 9 (0, 0))) (fun c pre2 V => c = .ret ∧ RndX X w4.heap.size W2 V ∧ ∃ ys, ys <+: st.all ∧ Jx ys V)
   (fun s P Q row hs hg hr => ⟨HJ.out _ P Q row hs.1 hg (fun k e => ⟨Nat.le_trans HZ3.out.1 (hr k e).1, (hr k e).2⟩), rndX_own (H23.out.size) s P Q row hs.2.1 hg hr, cellsX_own HZ3.out.2.1 s P Q row hs.2.2.1 hg hr, own_block (fun _ => .cells #[.string T] 9 (0, 0)) HZ3.out.2.2 s P Q row hs.2.2.2 hg hr⟩)
   (fun c s P Q row hs hg hr => ⟨hs.1, rndX_own (H23.out.size) s P Q row hs.2.1 hg hr, by obtain ⟨ys, h1, h2⟩ := hs.2.2; exact ⟨ys, h1, HJX.out _ P Q row h2 hg (fun k e => ⟨Nat.le_trans HZ3.out.1 (hr k e).1, (hr k e).2⟩)⟩⟩)
   ⟨by show J (outE (es.take k) ++ []) W3; rw [List.append_nil]; exact HK.out ▸ HJ3.out, HRND3.out, HCX3.out, HNM3.out⟩ ?round2 ?done2 ?stop2
  case round2 =>
   rintro l5 pre2 y Wq n5 hl5 hn5 - hpre2 -
   have hy : y ∈ e0.rows := by
    obtain ⟨r, hr⟩ := hpre2
    rw [← hr]; simp
   have hkb := R4.out y hy
   have hpr : outE (es.take k) ++ keysE e0.name ((pre2 ++ [y]).map Prod.fst) <+: st.all := by
    rw [← HALL.out]
    refine out_pre HE0.out ?_
    obtain ⟨r, hr⟩ := hpre2
    exact ⟨r.map Prod.fst, by rw [← hr]; simp⟩
   have HPR := hdL hpr
   unfold encP
   clear hpre2 hy hpr
   gi_wp2
   refine ⟨Below.refl _ _, ?_⟩
   rintro W5 ⟨hj5, hr5, hcx5, hnm5⟩ hsame5 -
   obtain ⟨kk, vals⟩ := y
   dsimp only at hkb
   have hof := vof_any W5 kk hkb.1 hkb.2
   obtain ⟨u, hu⟩ : ∃ u, u = verOf kk := ⟨_, rfl⟩
   have hout : outE (es.take k) ++ keysE e0.name ((pre2 ++ [(kk, vals)]).map Prod.fst) = (outE (es.take k) ++ keysE e0.name (pre2.map Prod.fst)) ++ [(e0.name, u)] := by
    rw [List.map_append, keysE_app, ← List.append_assoc, hu]
    rfl
   rw [← hu] at hof
   obtain ⟨x, yv, z⟩ := u
   dsimp only at hof
   have h2n : 1 ≤ 4 - 1 - 1 := by decide
   have HOF := hdL hof; have HOUT := hdL hout; have HJ5 := hdL hj5; have HR5 := hdL hr5; have HCX5 := hdL hcx5; have HNM5 := hdL hnm5
   clear hkb hu hof hout hj5 hr5 hcx5 hnm5 hsame5
   gi_wp2
   refine ⟨trivial, ?_⟩
   refine (CallsIn.inRound l5 ((callsIn_wide (n := 1)).2 HOF.out)).mono ?_
   rintro e W6 ⟨rfl, h6⟩
   obtain ⟨W7, hW7, hb7, hx7, y1, y2⟩ := aBk W6 #[.int .i64 x, .int .i64 yv, .int .i64 z] 39
   have h57 := h6.trans (hb7.mono h6.size)
   have hcx7 := HCX5.out.below h57
   have hJ7 : J (outE (es.take k) ++ keysE e0.name (pre2.map Prod.fst)) W7 := own_below HJ.out HJ5.out h57
   have hy7 := hcx7.cells By _ HX4.out rfl (HXY.out _ _ _)
   have hn7 := (h57.block _ (loh HNM5.out)).trans HNM5.out
   have hpr := HPR.out
   rw [HOUT.out] at hpr
   have b0 := cOh hy7 0
   have q0 := cOh hn7 0
   obtain ⟨v0, v1, v2⟩ := cells3 hx7
   obtain ⟨fn, tmps, assign, body, hyl, hR⟩ := yield_anyDepth rfl 1 (HY.out _ _ _ hJ7 hpr)
   unfold encPk at hyl
   rw [HT.out] at hyl
   dsimp only at hyl
   have HRND := hdL (show RoundIn (Fence.wide.inRound l5) 1 _ l fn tmps assign body _ _ from hR)
   have HR7 := hdL (HR5.out.trans (RndX.of_below h57)); have HCX7 := hdL hcx7; have HN7 := hdL hn7; have HP7 := hdL hpr
   have HSW := hdL (show W5.heap.size ≤ W7.heap.size from h57.size); have H57 := hdL h57
   clear h6 hb7 hx7 y1 y2 h57 hcx7 hJ7 hy7 hn7 hpr hR
   gi_wp2
   refine HRND.out.mono ?_
   rintro e W8 (⟨rfl, hJ8, hk8⟩ | ⟨rfl, hJ8, hk8⟩)
   ·have hn8 := hk8.cells Bn _ HN7.out rfl (HXS.out _ _ _)
    have HRA := hdL ((RndX.of_below (X := X) (n := W3.heap.size) H57.out).trans (hk8.mono HZ3.out.1))
    have HR8 := hdL (HR7.out.trans (hk8.mono HW4.out.1)); have HCX8 := hdL (HCX7.out.rnd hk8); have HJ8 := hdL hJ8; have HN8 := hdL hn8
    clear hJ8 hk8 hn8
    gi_wp2
    exact ⟨HRA.out, by rw [HOUT.out]; exact HJ8.out, HR8.out, HCX8.out, HN8.out⟩
   ·have HRA := hdL ((RndX.of_below (X := X) (n := W3.heap.size) H57.out).trans (hk8.mono HZ3.out.1))
    have HR8 := hdL (HR7.out.trans (hk8.mono HW4.out.1)); have HJ8 := hdL hJ8
    clear hJ8 hk8
    gi_wp2
    exact ⟨HRA.out, rfl, HR8.out, _, HP7.out, HJ8.out⟩
  case done2 =>
   rintro ys V rfl ⟨hj, hr, hcx, -⟩
   refine ⟨hr, ?_, hcx⟩
   rw [lAp, lSg, ← HK.out, out_next HE0.out]
   exact hj
  case stop2 =>
   rintro c2 pre2 V hp ⟨rfl, hr, ys, h1, h2⟩
   have HR := hdL hr; have H1 := hdL h1; have H2 := hdL h2
   clear hr h1 h2 hp
   gi_wp2
   exact ⟨HR.out, rfl, ys, H1.out, H2.out⟩
 case done =>
  rintro D ys V hD rfl ⟨hj, -⟩ hK
  have HJV := hdL (HJ.out.putObj (.deferred none) hj (Nat.le_trans HW4.out.1 hD) hK rfl); have HK := hdL hK
  clear hj hK
  refine marks_end1 (v := .tuple #[]) rfl HK.out (results_none rfl _ _ _) ⟨⟨_, rfl⟩, .inl ⟨_, rfl, ?_⟩⟩
  have h1 := HJV.out
  rw [tLe (by unfold ptrs; rw [List.length_map]; exact Nat.le_refl _), HALL.out] at h1
  exact h1
 case stop =>
  rintro D c9 pre V hD hp ⟨rfl, ys, h1, h2⟩ hK
  have HJV := hdL (HJX.out.putObj (.deferred none) h2 (Nat.le_trans HW4.out.1 hD) hK rfl); have HK := hdL hK; have H1 := hdL h1
  clear h1 h2 hK hp
  refine wpIn_wide.2 ?_
  go_wp2_with fail
  exact marks_ret1 (v := .tuple #[]) rfl HK.out (results_none rfl _ _ _) ⟨⟨_, rfl⟩, .inr ⟨_, H1.out, HJV.out⟩⟩
end
set_option maxHeartbeats 32000000
set_option maxRecDepth 100000
variable {Y : Zone}
theorem isSeed_ent {st : St} (ho : st.Ok) (p : Pk) : st.isSeed p = decide (st.ent p = some none) := by
 unfold St.ent
 cases hr : st.rec? p with
 | none =>
  dsimp only
  cases hs : st.isSeed p <;> simp
 | some r =>
  dsimp only
  obtain ⟨h1, h2⟩ := St.rec?_some hr
  rw [decide_eq_false (by simp), Bool.eq_false_iff, ne_eq, St.isSeed_iff]
  intro hm
  exact (List.nodup_append.1 ho.nodup).2.2 _ hm _ (List.mem_map.2 ⟨r, h1, h2⟩) rfl
theorem GetE.seed {F : List Nat} {st : St} (ho : st.Ok) {p : Pk} {w w' : World} {e : Ending} (h : GetE Y F st p w e w') : ∃ l b sb, e = .returned (.tuple #[.agg l.toArray, .bool b]) ∧ Below w.heap.size w w' ∧ (∃ ss sx sy sz st0 sa1 sn1 sc1 sa2 sn2 sc2 sa3 sn3 sc3, l = [.bool sb, .string ss, .int .i64 sx, .int .i64 sy, .int .i64 sz, .string st0, .slice sa1 sn1 sc1, .slice sa2 sn2 sc2, .slice sa3 sn3 sc3]) ∧ (b && sb) = st.isSeed p := by
 obtain ⟨l, b, rfl, h2, hsh, -, h3⟩ := h.shp
 obtain ⟨sb, ss, sx, sy, sz, st0, sa1, sn1, sc1, sa2, sn2, sc2, sa3, sn3, sc3, hl⟩ := hsh
 refine ⟨l, b, sb, rfl, h2, ⟨ss, sx, sy, sz, st0, sa1, sn1, sc1, sa2, sn2, sc2, sa3, sn3, sc3, hl⟩, ?_⟩
 rw [isSeed_ent ho]
 rcases h3 with ⟨en, he, rfl, hv⟩ | ⟨he, rfl, -⟩
 ·rw [he]
  cases en with
  | none =>
   unfold EntV at hv
   rw [hl] at hv
   obtain rfl : sb = true := by injection hv with hv _; injection hv
   rfl
  | some r =>
   obtain ⟨rs, hv, -, -⟩ := hv
   rw [hl] at hv
   obtain rfl : sb = false := by injection hv with hv _; injection hv
   rfl
 ·rw [he]
  rfl
theorem stkiss_any (w : World) (B : Nat) (F : List Nat) (st : St) (h : StkAtY Y w B F st) (p : Pk) :
  Calls Tryz.prog 46 #[.pointer (some ⟨B, 0, none⟩), .agg #[strV p.1, .int .i64 p.2.1, .int .i64 p.2.2.1, .int .i64 p.2.2.2]] w (fun e w' => e = .returned (.bool (st.isSeed p)) ∧ Below w.heap.size w w') := by
 have ho : st.Ok := by obtain ⟨_, _, _, _, h⟩ := h; exact h.ok
 obtain ⟨S, -, hS, -, -⟩ := strV_is p.1
 obtain ⟨x, hx⟩ : ∃ x, x = p.2.1 := ⟨_, rfl⟩
 obtain ⟨y, hy⟩ : ∃ x, x = p.2.2.1 := ⟨_, rfl⟩
 obtain ⟨z, hz⟩ : ∃ x, x = p.2.2.2 := ⟨_, rfl⟩
 obtain ⟨w1, hw1, hb1, hx1, y1, y2⟩ := aBk w #[.string S, .int .i64 x, .int .i64 y, .int .i64 z] 41
 have hG := stkget_any w1 B F st (h.below hb1) p
 rw [hS, ← hx, ← hy, ← hz] at hG ⊢
 obtain ⟨k0, k1, k2, k3⟩ := cells4 hx1
 have HG := hdL hG; have HB := hdL hb1; have HO := hdL ho
 obtain ⟨R, hR⟩ : ∃ R, R = st.isSeed p := ⟨_, rfl⟩
 rw [← hR]
 have HR := hdL hR
 clear h hG hb1 hx1 hS hx hy hz y1 y2 hR ho
 go_enter Tryz.func46, Tryz.ntmps46
 go_wp2_with fail
 refine HG.out.mono ?_
 intro e w2 hge
 obtain ⟨l, b, sb, rfl, h2, ⟨ss, sx, sy, sz, st0, sa1, sn1, sc1, sa2, sn2, sc2, sa3, sn3, sc3, rfl⟩, hb⟩ := hge.seed HO.out
 have h02 := HB.out.trans (h2.mono HB.out.size)
 have HW := hdL (h02.alloc h02.size (.cells #[.bool sb, .string ss, .int .i64 sx, .int .i64 sy, .int .i64 sz, .string st0, .slice sa1 sn1 sc1, .slice sa2 sn2 sc2, .slice sa3 sn3 sc3] 121))
 have HBB := hdL hb
 clear hge h2 hb h02 k0 k1 k2 k3
 cases b
 ·go_wp2_with fail
  go_ret
  exact ⟨by (rw [HR.out, ← HBB.out]; rfl), HW.out⟩
 ·go_wp2_with fail
  go_ret
  exact ⟨by (rw [HR.out, ← HBB.out]; rfl), HW.out⟩
section
variable {P : Program} {ops : Array Oper} {Q : Exit → Act → World → Prop} {md : Region.Mode} {l n : Nat}
def noDefer (ops : Array Oper) : Bool := ops.all fun o => match o.op with
 | .defer _ => false
 | _ => true
theorem noDefer_spec (h : noDefer ops = true) {i : Nat} {o : Oper} (hi : ops[i]? = some o) : ∀ c, o.op ≠ .defer c := by
 intro c e
 have h1 : (match o.op with | .defer _ => false | _ => true) = true := by
  unfold noDefer at h
  obtain ⟨hl, he⟩ := Array.getElem?_eq_some_iff.1 hi
  rw [Array.all_eq_true] at h
  have := h i hl
  rw [he] at this
  exact this
 rw [e] at h1
 cases h1
theorem rowsIn_of {F : Fence} {row : String} {args : Array Value} {w : World} {R : Value → World → Prop} (h : Rows P row args w R) : RowsIn (Fence.wide.inRound l) n P row args w R :=
 fun c cs _ => let ⟨v, w', r, s⟩ := h c cs; ⟨v, w', r, stepsIn_wide.2 s⟩
theorem oper_in {o : Oper} (hd : ∀ c, o.op ≠ .defer c) {a : Act} {w : World} {K : Act → World → Prop} (h : Oper.wp P o a w K Q) : Oper.wpIn (Fence.wide.inRound l) n P o a w K Q := by
 refine ⟨fun _ _ => trivial, ?_⟩
 rw [show (Fence.wide.inRound l).round = some l from rfl, Oper.semAt_some l _ o hd]
 unfold Oper.wp at h
 generalize (execOp a.eval o).run P w = r at h ⊢
 cases r with
 | ok x w' =>
  cases x with
  | value v => exact h
  | skip => exact h
  | defer d => exact h
  | enter f args => exact ⟨fun e => (by cases e), CallsIn.inRound l ((callsIn_wide (n := n - 1)).2 h)⟩
  | row row args => exact ⟨fun e => (by cases e), rowsIn_of (F := Fence.wide) h⟩
  | _ => exact h.elim
 | halt x w' => cases x <;> exact h
def NoPO (Q : Exit → Act → World → Prop) : Exit → Act → World → Prop
 | .panic _, _, _ => False
 | .outgrown, _, _ => False
 | e, a, w => Q e a w
theorem NoPO.go {a : Act} {w : World} (h : Q .normal a w) : NoPO Q .normal a w := h
theorem noPO_imp (e : Exit) (a : Act) (w : World) (h : NoPO Q e a w) : Q e a w := by
 cases e <;> first | exact h | exact h.elim
theorem noPO_out : ¬ LetsOut (NoPO Q) := fun ⟨_, _, h⟩ => h
theorem wpOp_in (hno : ¬ LetsOut Q) (hd : noDefer ops = true) {i : Nat} {K : Act → World → Prop} {a : Act} {w : World} (h : wpOp P ops Q i K a w) : wpOpIn (Fence.wide.inRound l) n P ops Q i K a w := by
 unfold wpOp at h
 unfold wpOpIn
 cases ho : ops[i]? with
 | none => rw [ho] at h; exact h
 | some o =>
  rw [ho] at h
  dsimp only at h ⊢
  by_cases hw : Region.wanted o (yielded ops a.tmps) = true
  ·rw [if_pos hw] at h ⊢
   exact oper_in (noDefer_spec hd ho) (h.elim id (fun h => absurd h.2 hno))
  ·rw [if_neg hw] at h ⊢
   exact ⟨fun _ _ => trivial, h⟩
theorem wpAny_in (hno : ¬ LetsOut Q) (hd : noDefer ops = true) : ∀ (fuel : Nat) (listed : Array Bool) (a : Act) (w : World), wpAny P md ops Q fuel listed a w → wpAnyIn (Fence.wide.inRound l) n P md ops Q fuel listed a w
 | 0, _, _, _, h => h
 | fuel + 1, listed, a, w, h => ⟨h.1, fun i hi => wpOp_in hno hd (wpOp_mono (fun a' w' h' => wpAny_in hno hd fuel _ a' w' h') (h.2 i hi))⟩
theorem owe3 {k1 k2 k3 : Nat} {A1 A2 A3 : World → Prop} {listed : Array Bool} {w : World} (h1 : listed.getD k1 true = false → A1 w) (h2 : listed.getD k2 true = false → A2 w) (h3 : listed.getD k3 true = false → A3 w) : OweL [(k1, A1), (k2, A2), (k3, A3)] listed w := by
 intro p hp
 rcases List.mem_cons.1 hp with rfl | hp
 ·exact h1
 ·rcases List.mem_cons.1 hp with rfl | hp
  ·exact h2
  ·obtain rfl := mSg.1 hp
   exact h3
theorem wpList_append_c {P : Program} {ops : Array Oper} {rest : List Oper} {o : Oper} {a : Act} {w : World} {Q : Exit → Act → World → Prop} (hgd : o.guard = none) (s x : Operand) (t tx : TypeId)
  (ho : o.op = .call { callee := .builtin .append, args := #[s, x], argTypes := #[t, tx] })
  (base : Nat) (e : TypeId) (i : TypeInfo) (z : Value) (size bytes : Nat) (ht : P.underlying t = some (.slice e)) (hi : P.info? e = some i) (hz : i.zero = some z)
  (hsize : i.size = size) (hby : i.bytes = bytes) (hzs : z.cells.size = size)
  (v : Value) (hv : a.eval s = v) (n : Nat) (xs : List Value) (hown : ownsC w base e size v n xs) (y : Value) (hy : a.eval x = y) (m : Nat) (news : List Value) (hs : Src P size tx y m news w)
  (h63 : n + m ≤ maxLen) (hbytes : (n + m) * bytes ≤ 140737488355328) (hbase : base ≤ w.heap.size)
  (h : ∀ a' c' w', ownsC w' base e size (.slice a' (n + m) c') (n + m) (xs ++ news) → w.grownBy w' v.ownBlock → ((Value.slice a' (n + m) c').ownBlock = v.ownBlock ∨ (Value.slice a' (n + m) c').ownBlock = some w.heap.size) → wpList P ops Q rest (a.put o.dst (.slice a' (n + m) c')) w') : wpList P ops Q (o :: rest) a w := by
 refine wpList_plain hgd fun K hK => ?_
 obtain ⟨v', w', hr, h2, h3, h4⟩ := run_append_c (P := P) w base t tx o.type e i z size bytes ht hi hz hsize hby hzs v n xs hown y m news hs h63 hbytes hbase
 obtain ⟨a', c', rfl, -⟩ := ownsC_form h2
 unfold Oper.wp execOp
 simp only [ho, resolve, invoke, builtin, Sem.run_bind, Sem.run_pure, Result.andThen_ok, List.map_toArray, List.map_cons, List.map_nil, hv, hy, hr]
 exact hK _ _ (h a' c' w' h2 h3 h4)
theorem keep_putObj {Z : Zone} {w : World} {D : Nat} {o o' : Obj} (h : w.heap[D]? = some o) (hc : o.isCells = false) : Keep Z Z w (w.putObj D o') :=
 ⟨fun _ _ hz => hz, by simp, fun a u _ hu => by
  obtain ⟨o1, h1, h2⟩ := cells_of_cell hu
  refine (World.cell?_of_block (World.putObj_heap_other (fun e => ?_))).trans hu
  rw [e, h] at h1
  obtain rfl := sIj h1
  rw [hc] at h2
  cases h2⟩
theorem UpV.startIn {id : Nat} {a : Act} {w : World} (Ss : List (Nat × (World → Prop))) (hm : P.follows .mixedOrders = true) (hd : noDefer ops = true)
  (h : UpV P .any ops (NoPO Q) Ss ops.size (Array.replicate ops.size false) a w.drew) : (Code.region id ops true).wpIn (Fence.wide.inRound l) n P Q a w :=
 wpIn_mono (wpIn_region_any hm (wpAny_in noPO_out hd _ _ _ _ (UpV.any _ _ _ _ h))) noPO_imp
end
end Go.Proofs.YtaagkndhgicifaaGreat
