/- DERIVED. Stages that may be nil; Fix and the reference's side by side; a function that leaves two ranges behind. -/
import Derived.Test.YtaagkndhgicifaaGreatStgIn
import Derived.Test.YtaagkndhgicifaaGreatRStgFH
namespace Go.Proofs.YtaagkndhgicifaaGreat
set_option maxHeartbeats 32000000
open Go.RowKit Go.Shelf
attribute [local go_sem] Oper.semAt_some
set_option linter.unusedVariables false
set_option linter.unusedSimpArgs false
set_option maxRecDepth 100000
theorem region_fam_in {P : Program} {id r n : Nat} {Q : Exit → Act → World → Prop} {a : Act} {w : World} {l : List Oper} {ι : Type} (F : ι → World) (n0 : ι) (h0 : F n0 = { w with drawn := w.drawn + 1 }) (hm : P.follows .mixedOrders = true) (hB : Region.lexB .any l.toArray = true) (hd : noDefer l.toArray = true)
  (h : wpQuiet P l.toArray (fun w' => ∃ n, w' = F n) (fun a' => ∀ w', (∃ n, w' = F n) → Q .normal a' w') l a) : (Code.region id l.toArray true).wpIn (Fence.wide.inRound r) n P Q a w := by
 simp only [Region.lexB, Bool.and_eq_true] at hB
 refine wpIn_mono (wpIn_region_any hm (wpAny_in noPO_out hd _ _ _ _ ?_)) noPO_imp
 refine wpAny_of_quiet (Q := fun a' => ∀ w', (∃ n, w' = F n) → NoPO Q .normal a' w') (fun _ w' hw' h => h w' hw') _ _ _ _ ⟨n0, h0.symm⟩ ?_
 have h2 : wpQuiet P l.toArray (fun w' => ∃ n, w' = F n) (fun a' => ∀ w', (∃ n, w' = F n) → NoPO Q .normal a' w') l a := h
 have := wpAnyQ_lex (C := fun w' => ∃ n, w' = F n) (Q := fun a' => ∀ w', (∃ n, w' = F n) → NoPO Q .normal a' w') (md := .any) hB.1 l.toArray.toList 0 (Array.replicate l.toArray.size false) a (by simp) (by simpa using hB.2) (by simpa using h2)
 simpa using this
theorem marks_ret2 {P : Program} {fn : Func} {R : Ending → World → Prop} {a : Act} {w : World} {v : Value} {D2 D : Nat} (hd : a.defers = [{ target := .collected D2, args := #[] }, { target := .collected D, args := #[] }]) (hK2 : w.heap[D2]? = some (.deferred (some [])))
  (hK : (w.putObj D2 (.deferred none)).heap[D]? = some (.deferred (some [])))
  (h : (results fn a.tmps).run P ((w.putObj D2 (.deferred none)).putObj D (.deferred none)) = .ok v ((w.putObj D2 (.deferred none)).putObj D (.deferred none))) (hR : R (.returned v) ((w.putObj D2 (.deferred none)).putObj D (.deferred none))) : bodyPostM Fence.wide 3 P fn R .ret a w := by
 show LeavesInM _ _ _ _ _ _ a.defers .returning w
 rw [hd]
 exact ⟨by simp, .inl ⟨D2, _, rfl, run_takeDeferred hK2, by simp, .inl ⟨D, _, rfl, run_takeDeferred hK, v, h, hR⟩⟩⟩
theorem StopsE.mono {α : Type} {n : Nat} {P : Program} {g : Nat} {lb : Array Value} {encs : α → Array Value} {X : Nat → Obj → Prop} {S Sp S' Sp' : List α → Prop} {Ex : Nat → α → World → Prop} {w : World} (h : StopsE n P g lb encs X S Sp Ex w) (hS : ∀ xs, S xs → S' xs) (hp : ∀ xs, Sp xs → Sp' xs) : StopsE n P g lb encs X S' Sp' Ex w := by
 intro l J Jx W hW hJ hJx hY h0
 refine (h l J Jx W hW hJ hJx (fun pre x W1 hj hs he => hY pre x W1 hj (hp _ hs) he) h0).mono ?_
 rintro e W' ⟨h1, h2⟩
 rcases h2 with ⟨xs, h3, h4⟩ | ⟨pre, h3, h4⟩
 ·exact ⟨h1, .inl ⟨xs, hS _ h3, h4⟩⟩
 ·exact ⟨h1, .inr ⟨pre, hp _ h3, h4⟩⟩
def StgO (Z : Zone) (w : World) (po : Option Addr) (es : List EV) (l : List Pk) (m : Int) : Prop := (po = none ∧ es = [] ∧ l = [] ∧ m = 0) ∨ ∃ Tb, po = some ⟨Tb, 0, none⟩ ∧ StgAt Z w Tb es l m
section
variable {Z Z' : Zone} {w w' : World} {po : Option Addr} {es : List EV} {l : List Pk} {m : Int}
theorem StgO.keep (hk : Keep Z Z' w w') (h : StgO Z w po es l m) : StgO Z' w' po es l m := by
 rcases h with h | ⟨Tb, h1, h2⟩
 ·exact .inl h
 ·exact .inr ⟨Tb, h1, h2.keep hk⟩
theorem StgO.below (h : StgO Z w po es l m) (hb : Below w.heap.size w w') : StgO Z w' po es l m := h.keep (Keep.below hb)
theorem oget_any (h : StgO Z w po es l m) (p : Pk) :
  Calls Tryz.prog 30 #[.pointer po, .agg #[strV p.1, .int .i64 p.2.1, .int .i64 p.2.2.1, .int .i64 p.2.2.2]] w (GetP (es.map Prod.fst) p w) := by
 rcases h with ⟨rfl, rfl, rfl, rfl⟩ | ⟨Tb, rfl, h⟩
 ·exact sget_nil w p
 ·exact sget_any w Z Tb es l m h p
theorem oless_any (h : StgO Z w po es l m) :
  Calls Tryz.prog 21 #[.pointer po] w (fun e w' => ∃ a c, e = .returned (.slice a l.length c) ∧ PRow w.heap.size w' (.slice a l.length c, l) ∧ Below w.heap.size w w') := by
 rcases h with ⟨rfl, rfl, rfl, rfl⟩ | ⟨Tb, rfl, h⟩
 ·exact (sless_nil w).mono fun e w' h => by
   obtain ⟨rfl, rfl⟩ := h
   exact ⟨none, 0, rfl, PRow.nil _ _, Below.refl _ _⟩
 ·exact sless_any w Z Tb es l m h
theorem omade_any (h : StgO Z w po es l m) : Calls Tryz.prog 35 #[.pointer po] w (fun e w' => e = .returned (.int .i64 m) ∧ w = w') := by
 rcases h with ⟨rfl, rfl, rfl, rfl⟩ | ⟨Tb, rfl, h⟩
 ·exact smade_nil w
 ·exact smade_any w Z Tb es l m h
theorem oall_stops (n : Nat) (hn : 3 ≤ n) (h : StgO Z w po es l m) (C : Nat) (hC : w.heap[C]? = some (.cells #[.pointer po] 31 (0, 0)))
  (X : Nat → Obj → Prop) (hZ : ∀ b, Z b → ∀ o, ¬ X b o) :
  StopsE n Tryz.prog 48 #[.pointer (some ⟨C, 0, none⟩)] encE X (fun ys => ys.map Prod.fst = es.map Prod.fst) (fun pre => pre.map Prod.fst <+: es.map Prod.fst) ExE w := by
 rcases h with ⟨rfl, rfl, rfl, rfl⟩ | ⟨Tb, rfl, h⟩
 ·refine (sall_nil n (by omega) w C hC X).mono (fun ys hy => by rw [hy]) (fun pre hp => ?_)
  rw [List.prefix_nil.1 hp]
  exact List.prefix_refl _
 ·exact sall_stops n hn w Z Tb es l m h C hC X hZ
end
theorem getE_len {L : List Ent} (h : ∀ x ∈ L, x.choice.2.length ≤ 100000) (p : Pk) : (getE L p).1.choice.2.length ≤ 100000 := by
 unfold getE
 cases hf : L.find? (fun x => decide (x.pkg = p)) with
 | none => exact Nat.zero_le _
 | some x => exact h x (List.mem_of_find?_eq_some hf)
theorem StgO.len {Z : Zone} {w : World} {po : Option Addr} {es : List EV} {l : List Pk} {m : Int} (h : StgO Z w po es l m) (p : Pk) : (getE (es.map Prod.fst) p).1.choice.2.length ≤ 100000 := by
 refine getE_len (fun x hx => ?_) p
 rcases h with ⟨-, rfl, -, -⟩ | ⟨Tb, -, h⟩
 ·cases hx
 ·obtain ⟨y, hy, rfl⟩ := List.mem_map.1 hx
  exact h.few.2.2 y hy
theorem fix_both {st : St} {left : Int} {w w' v v' : World} {po : Option Addr} {e0 : Int} {e' : Ending} (h1 : FixQ st left w w' po e0) (h2 : RFixP st left v e' v') : Below v.heap.size v v' ∧
  ∃ (m : Int) (es es' : List EV) (l : List Pk) (aL : Option Addr) (cL : Nat) (al : Option Addr) (cl : Nat), e' = .returned (.tuple #[.agg #[.slice aL es'.length cL, .slice al l.length cl, .int .i64 m], .int .i64 e0]) ∧
   StgO (zNew w.heap.size) w' po es l m ∧ EntsAt (zNew v.heap.size) v' (.slice aL es'.length cL) es' ∧ PkgsAt (zNew v.heap.size) v' (.slice al l.length cl) l ∧ es'.map Prod.fst = es.map Prod.fst ∧ ((po = none ∧ e0 = 60) ∨ (po ≠ none ∧ e0 = 0)) ∧ es'.length ≤ 100000 ∧ l.length ≤ 100000 := by
 obtain ⟨b2, es', l', m', e1, aL, cL, al, cl, rfl, k1, k2, ⟨k3, k4, -⟩, k5⟩ := h2
 refine ⟨b2, ?_⟩
 rcases h1 with ⟨rfl, rfl, hf⟩ | ⟨Tb, es, l, m, rfl, rfl, hf, hs⟩
 ·rcases k5 with ⟨-, rfl, rfl, rfl, rfl⟩ | ⟨-, hf'⟩
  ·exact ⟨0, [], [], [], aL, cL, al, cl, rfl, .inl ⟨rfl, rfl, rfl, rfl⟩, k1, k2, rfl, .inl ⟨rfl, rfl⟩, k3, k4⟩
  ·rw [hf] at hf'; cases hf'
 ·rcases k5 with ⟨hf', -⟩ | ⟨rfl, hf'⟩
  ·rw [hf] at hf'; cases hf'
  ·rw [hf] at hf'
   have h3 := sIj hf'
   injection h3 with h3 h4
   injection h4 with h4 h5
   subst h4 h5
   exact ⟨m, es, es', l, aL, cL, al, cl, rfl, .inr ⟨Tb, rfl, hs⟩, k1, k2, h3.symm, .inr ⟨by simp, rfl⟩, k3, k4⟩
theorem fix_nil_any (w : World) (left : Int) : Calls Tryz.prog 16 #[.pointer none, .int .i64 left] w (fun e w' => e = .returned (.tuple #[.pointer none, .int .i64 2]) ∧ Below w.heap.size w w') := by
 obtain ⟨w1, hw1, hb1, hx1, y1, y2⟩ := aBk w #[.pointer none] 27
 obtain ⟨b1, hb1e⟩ : ∃ b, w.heap.size = b := ⟨_, rfl⟩
 have k0 := cOh hx1 0
 rw [hb1e] at k0
 have HB := hdL hb1
 clear hb1 hx1 y1 y2
 refine calls_of_wp_marks Tryz.func16 rfl ?_
 simp only [Tryz.ntmps16, List.size_toArray, List.length_cons, List.length_nil, Nat.reduceAdd, Nat.reduceSub, Array.replicate_succ, Array.replicate_zero, List.push_toArray, List.append_toArray, List.nil_append, List.cons_append]
 go_wp2_with fail
 refine marks_ret0 (v := .tuple #[.pointer none, .int .i64 2]) (by simp [results, Tryz.results16, go_sem]) rfl ⟨rfl, ?_⟩
 first | exact HB.out | (have hq := HB.out; rw [hb1e] at hq; exact hq)
end Go.Proofs.YtaagkndhgicifaaGreat
