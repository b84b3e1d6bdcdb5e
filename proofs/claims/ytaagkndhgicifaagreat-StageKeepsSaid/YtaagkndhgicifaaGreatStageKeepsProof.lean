/-
  The Go law StageKeeps returns true for every input, and leaves its arguments as they were. Conditions: none beyond the given statement.
  The frame is written by a program of this claim (after the kit's shells); the walk stands in the imported texts.
-/
import Derived.Test.YtaagkndhgicifaaGreatRows
import Derived.WalkKit
import Derived.ProofKit
import Derived.OpenShut
import Derived.ShutString
import Derived.ChangeOld
import Derived.Below
import Derived.SizedLaws
import Derived.Test.YtaagkndhgicifaaGreatReach
import Derived.Test.YtaagkndhgicifaaGreatStgKps
import Derived.Test.YtaagkndhgicifaaGreatArg
namespace Go.Proofs.YtaagkndhgicifaaGreat.stageKeeps
open Go.ChangeShapes Go.WideShapes Go.ChangeAt Go.RowKit
open Go.ChangeMaps (open_string shut_string)
set_option linter.unusedVariables false

theorem own : ownKnob Tryz.prog.godebug = none := by kernel_rfl
theorem laidOut : laidOutB Tryz.prog = true := by kernel_rfl

set_option maxRecDepth 100000 in
set_option maxHeartbeats 400000 in
theorem lifted (os : Os) (started : os.Started) (H : Type) (enc : TypeId × Value → H) :
    ReturnsInHanded {} Tryz.checked os 6 .any (Rows.stageKeepsSpec.pre6 enc Tryz.prog Tryz.f6 Rows.stageKeepsRow.domain false) (Rows.stageKeepsSpec.post enc Tryz.prog Tryz.f6 false true false false) := by
  refine returnsInHanded_of_change_sized (C := Tryz.checked) own started (by kernel_rfl) Tryz.func6
    (ChangeSpec.witness6 (enc := enc) (C := Tryz.checked) false ⟨#[], #[.agg #[.slice none 0 0, .slice none 0 0], .agg #[.string ByteArray.empty, .int .i64 0, .int .i64 0, .int .i64 0]], []⟩ 8 (by kernel_rfl) (by kernel_rfl) (by kernel_rfl) (by kernel_rfl)) ?_
  intro W base args ds gs before hval0 hW hcnd hsz0 _
  have hval : ∀ (j : Nat) t v, Tryz.f6.params[j]? = some t → args[j]? = some v → Value.okWide Tryz.prog W .any base t v := hval0
  have hW' := hW
  obtain ⟨p, q, hA0, hV, rfl, hfz, hnd⟩ := hW
  have hA : DataW.TrodAll enc Tryz.prog W 0 (fun _ => true) true Tryz.f6.params.toList args.toList ds p := hA0
  have hsz : (DataW.weightsEach Tryz.prog (Tryz.f6.params.toList ++ Rows.stageKeepsSpec.plain.varTypes Tryz.prog) (ds ++ gs)).all (· ≤ reachBytes) = true := hsz0
  rw [Tryz.params6] at hA hval hsz
  obtain ⟨v0, vs0, d0, ds0, p0, q0, hargs, rfl, rfl, h0, r0⟩ := trodAll_cons hA
  obtain ⟨v1, vs1, d1, ds1, p1, q1, rfl, rfl, rfl, h1, r1⟩ := trodAll_cons r0
  obtain ⟨rfl, rfl, rfl⟩ := trodAll_nil r1
  clear r0
  obtain rfl : args = #[v0, v1] := by cases args; simp_all
  obtain ⟨rfl, rfl⟩ := trodVars_none hV
  have k0 := h0
  have lt0 : ∀ x ∈ p0, x.block < W.heap.size := by obtain ⟨m, hm⟩ := k0; exact DataW.trod_lt m _ _ _ hm
  have o0 := hval 0 25 v0 rfl rfl
  have k1 := h1
  have lt1 : ∀ x ∈ p1, x.block < W.heap.size := by obtain ⟨m, hm⟩ := k1; exact DataW.trod_lt m _ _ _ hm
  have o1 := hval 1 41 v1 rfl rfl
  clear hA0 hval0
  simp only [List.append_nil] at hW'
  obtain ⟨fu0, hag0⟩ := arg_of hsz (j := 0) rfl rfl k0
  obtain ⟨ca0, rfl, hcs0⟩ := okWide_struct Tryz.underlying25 o0
  have hcl0 : ca0.toList.length = 2 := by rw [Array.length_toList, hcs0]; kernel_rfl
  obtain ⟨u01, u02, x0, hu0, hx0⟩ := pack16_of_arg ca0.toList hcl0 hag0
  have e0 : ca0 = #[u01, u02] := by have := congrArg List.toArray hu0; rwa [Array.toArray_toList] at this
  subst e0
  obtain ⟨fu1, hag1⟩ := arg_of hsz (j := 1) rfl rfl k1
  obtain ⟨ca1, rfl, hcs1⟩ := okWide_struct Tryz.underlying41 o1
  have hcl1 : ca1.toList.length = 4 := by rw [Array.length_toList, hcs1]; kernel_rfl
  obtain ⟨q1, hu1, hq1⟩ := pk_of_arg ca1.toList hcl1 hag1
  have e1 : ca1 = #[strV q1.1, .int .i64 q1.2.1, .int .i64 q1.2.2.1, .int .i64 q1.2.2.2] := by have := congrArg List.toArray hu1; rwa [Array.toArray_toList] at this
  subst e1
  refine (keeps_any W u01 u02 x0 hx0 q1 hq1).mono fun e W' ⟨he, bel⟩ => ?_
  subst he
  exact ⟨_, rfl, _, _, _, [], _, [], hW', (trodAll_cons_mk (shut_bool Tryz.underlying4 _) trodAll_mk0), (trodAll_cons_mk (Below.trod laidOut (by kernel_rfl) (of_decide_eq_true (by kernel_rfl)) k0 bel lt0) (trodAll_cons_mk (Below.trod laidOut (by kernel_rfl) (of_decide_eq_true (by kernel_rfl)) k1 bel lt1) trodAll_mk0)), rfl, bel.frame _, fun h => by cases h⟩

theorem over : Rows.stageKeepsRow.holds Tryz.pinned (OpenSpec.ofChange Rows.stageKeepsSpec) :=
  OpenClaim.holds_of_wide 6 Tryz.f6 rfl rfl rfl rfl rfl rfl rfl ⟨rfl, rfl, rfl, rfl, rfl⟩ rfl rfl rfl rfl rfl (by kernel_rfl) Tryz.func6 (by kernel_rfl)
    (of_decide_eq_true (by kernel_rfl)) (by unfold Func.isWrapper; first | (rw [if_pos (by decide +kernel)]; kernel_rfl) | (rw [if_neg (by decide +kernel)]; exact ⟨rfl, rfl⟩))
    (fun os started H enc _ => lifted os started H enc)

theorem proved : Rows.StageKeepsSaid := over
#print axioms proved
end Go.Proofs.YtaagkndhgicifaaGreat.stageKeeps
