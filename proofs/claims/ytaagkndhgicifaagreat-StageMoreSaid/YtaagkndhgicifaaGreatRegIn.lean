/- DERIVED. A region that draws its order, in a round of a range over a function: walked as anywhere, where no operation of it is a defer statement. -/
import Derived.Test.YtaagkndhgicifaaGreatSv09
import Derived.Test.YtaagkndhgicifaaGreatRngE
import Derived.OrdersIn
import Derived.Test.YtaagkndhgicifaaGreatSv07
import Derived.TacticsIn
namespace Go.Proofs.YtaagkndhgicifaaGreat
open Go.RowKit
set_option linter.unusedVariables false

section
variable {P : Program} {ops : Array Oper} {Q : Exit → Act → World → Prop} {md : Region.Mode} {l n : Nat}
def noDefer (ops : Array Oper) : Bool := ops.all fun o => match o.op with
  | .defer _ => false
  | _ => true
theorem noDefer_spec (h : noDefer ops = true) {i : Nat} {o : Oper} (hi : ops[i]? = some o) : ∀ c, o.op ≠ .defer c := by
  intro c e
  have h1 : (match o.op with | .defer _ => false | _ => true) = true := by
    unfold noDefer at h
    obtain ⟨hl, he⟩ := Array.getElem?_eq_some_iff.1 hi
    rw [Array.all_eq_true] at h
    have := h i hl
    rw [he] at this
    exact this
  rw [e] at h1
  cases h1
theorem rowsIn_of {F : Fence} {row : String} {args : Array Value} {w : World} {R : Value → World → Prop} (h : Rows P row args w R) : RowsIn (Fence.wide.inRound l) n P row args w R :=
  fun c cs _ => let ⟨v, w', r, s⟩ := h c cs; ⟨v, w', r, stepsIn_wide.2 s⟩
theorem oper_in {o : Oper} (hd : ∀ c, o.op ≠ .defer c) {a : Act} {w : World} {K : Act → World → Prop} (h : Oper.wp P o a w K Q) : Oper.wpIn (Fence.wide.inRound l) n P o a w K Q := by
  refine ⟨fun _ _ => trivial, ?_⟩
  rw [show (Fence.wide.inRound l).round = some l from rfl, Oper.semAt_some l _ o hd]
  unfold Oper.wp at h
  generalize (execOp a.eval o).run P w = r at h ⊢
  cases r with
  | ok x w' =>
    cases x with
    | value v => exact h
    | skip => exact h
    | defer d => exact h
    | enter f args => exact ⟨fun e => (by cases e), CallsIn.inRound l ((callsIn_wide (n := n - 1)).2 h)⟩
    | row row args => exact ⟨fun e => (by cases e), rowsIn_of (F := Fence.wide) h⟩
    | _ => exact h.elim
  | halt x w' => cases x <;> exact h
/-- Without panics, and without want of room. -/
def NoPO (Q : Exit → Act → World → Prop) : Exit → Act → World → Prop
  | .panic _, _, _ => False
  | .outgrown, _, _ => False
  | e, a, w => Q e a w
theorem NoPO.go {a : Act} {w : World} (h : Q .normal a w) : NoPO Q .normal a w := h
theorem noPO_imp (e : Exit) (a : Act) (w : World) (h : NoPO Q e a w) : Q e a w := by
  cases e <;> first | exact h | exact h.elim
theorem noPO_out : ¬ LetsOut (NoPO Q) := fun ⟨_, _, h⟩ => h
theorem wpOp_in (hno : ¬ LetsOut Q) (hd : noDefer ops = true) {i : Nat} {K : Act → World → Prop} {a : Act} {w : World} (h : wpOp P ops Q i K a w) : wpOpIn (Fence.wide.inRound l) n P ops Q i K a w := by
  unfold wpOp at h
  unfold wpOpIn
  cases ho : ops[i]? with
  | none => rw [ho] at h; exact h
  | some o =>
    rw [ho] at h
    dsimp only at h ⊢
    by_cases hw : Region.wanted o (yielded ops a.tmps) = true
    · rw [if_pos hw] at h ⊢
      exact oper_in (noDefer_spec hd ho) (h.elim id (fun h => absurd h.2 hno))
    · rw [if_neg hw] at h ⊢
      exact ⟨fun _ _ => trivial, h⟩
theorem wpAny_in (hno : ¬ LetsOut Q) (hd : noDefer ops = true) : ∀ (fuel : Nat) (listed : Array Bool) (a : Act) (w : World), wpAny P md ops Q fuel listed a w → wpAnyIn (Fence.wide.inRound l) n P md ops Q fuel listed a w
  | 0, _, _, _, h => h
  | fuel + 1, listed, a, w, h => ⟨h.1, fun i hi => wpOp_in hno hd (wpOp_mono (fun a' w' h' => wpAny_in hno hd fuel _ a' w' h') (h.2 i hi))⟩
theorem owe3 {k1 k2 k3 : Nat} {A1 A2 A3 : World → Prop} {listed : Array Bool} {w : World} (h1 : listed.getD k1 true = false → A1 w) (h2 : listed.getD k2 true = false → A2 w) (h3 : listed.getD k3 true = false → A3 w) : OweL [(k1, A1), (k2, A2), (k3, A3)] listed w := by
  intro p hp
  rcases List.mem_cons.1 hp with rfl | hp
  · exact h1
  · rcases List.mem_cons.1 hp with rfl | hp
    · exact h2
    · obtain rfl := List.mem_singleton.1 hp
      exact h3
/-- 'append' onto a row of one's own, in a plain walk. -/
theorem wpList_append_c {P : Program} {ops : Array Oper} {rest : List Oper} {o : Oper} {a : Act} {w : World} {Q : Exit → Act → World → Prop} (hgd : o.guard = none) (s x : Operand) (t tx : TypeId)
    (ho : o.op = .call { callee := .builtin .append, args := #[s, x], argTypes := #[t, tx] })
    (base : Nat) (e : TypeId) (i : TypeInfo) (z : Value) (size bytes : Nat) (ht : P.underlying t = some (.slice e)) (hi : P.info? e = some i) (hz : i.zero = some z)
    (hsize : i.size = size) (hby : i.bytes = bytes) (hzs : z.cells.size = size)
    (v : Value) (hv : a.eval s = v) (n : Nat) (xs : List Value) (hown : ownsC w base e size v n xs) (y : Value) (hy : a.eval x = y) (m : Nat) (news : List Value) (hs : Src P size tx y m news w)
    (h63 : n + m ≤ maxLen) (hbytes : (n + m) * bytes ≤ 140737488355328) (hbase : base ≤ w.heap.size)
    (h : ∀ a' c' w', ownsC w' base e size (.slice a' (n + m) c') (n + m) (xs ++ news) → w.grownBy w' v.ownBlock → ((Value.slice a' (n + m) c').ownBlock = v.ownBlock ∨ (Value.slice a' (n + m) c').ownBlock = some w.heap.size) → wpList P ops Q rest (a.put o.dst (.slice a' (n + m) c')) w') : wpList P ops Q (o :: rest) a w := by
  refine wpList_plain hgd fun K hK => ?_
  obtain ⟨v', w', hr, h2, h3, h4⟩ := run_append_c (P := P) w base t tx o.type e i z size bytes ht hi hz hsize hby hzs v n xs hown y m news hs h63 hbytes hbase
  obtain ⟨a', c', rfl, -⟩ := ownsC_form h2
  unfold Oper.wp execOp
  simp only [ho, resolve, invoke, builtin, Sem.run_bind, Sem.run_pure, Result.andThen_ok, List.map_toArray, List.map_cons, List.map_nil, hv, hy, hr]
  exact hK _ _ (h a' c' w' h2 h3 h4)
/-- A turn of a block that holds no cells leaves all cells. -/
theorem keep_putObj {Z : Zone} {w : World} {D : Nat} {o o' : Obj} (h : w.heap[D]? = some o) (hc : o.isCells = false) : Keep Z Z w (w.putObj D o') :=
  ⟨fun _ _ hz => hz, by simp, fun a u _ hu => by
    obtain ⟨o1, h1, h2⟩ := cells_of_cell hu
    refine (World.cell?_of_block (World.putObj_heap_other (fun e => ?_))).trans hu
    rw [e, h] at h1
    obtain rfl := Option.some.inj h1
    rw [hc] at h2
    cases h2⟩
theorem UpV.startIn {id : Nat} {a : Act} {w : World} (Ss : List (Nat × (World → Prop))) (hm : P.follows .mixedOrders = true) (hd : noDefer ops = true)
    (h : UpV P .any ops (NoPO Q) Ss ops.size (Array.replicate ops.size false) a w.drew) : (Code.region id ops true).wpIn (Fence.wide.inRound l) n P Q a w :=
  wpIn_mono (wpIn_region_any hm (wpAny_in noPO_out hd _ _ _ _ (UpV.any _ _ _ _ h))) noPO_imp
end
end Go.Proofs.YtaagkndhgicifaaGreat
