/- DERIVED. Packages that need the seed alone, and one that needs them all: their stages, by the kernel. No program in sight. -/
import Derived.Test.YtaagkndhgicifaaGreatStgTool
import Derived.Test.YtaagkndhgicifaaGreatStgGet
namespace Go.Proofs.YtaagkndhgicifaaGreat
set_option linter.unusedVariables false
set_option maxRecDepth 100000
def n_top : List UInt8 := [116, 111, 112]
def wN (i : Nat) : List UInt8 := [97 + UInt8.ofNat i]
def wDep (i : Nat) : Dp := (wN i, [(0, 9000000)])
def wRec (i : Nat) : Rc := toolR (wN i) 1 n_cc 0 9
def wSt (k : Nat) : St := ⟨[(n_cc, 1, 0, 0)], (List.range k).map wRec⟩
def wTop (k : Nat) : Rc := ⟨(n_top, 1, 0, 0), (n_cc, [(0 * 1000000, 9 * 1000000)]), (List.range k).map wDep, []⟩
def wAll (k : Nat) : St := ⟨[(n_cc, 1, 0, 0)], (List.range k).map wRec ++ [wTop k]⟩
theorem wSt_seed : St.empty.seed (n_cc, 1, 0, 0) = (wSt 0, 0) := by kernel_rfl
def wB (k : Nat) : ByteArray := ⟨#[97 + UInt8.ofNat k]⟩
theorem wSt_add : ∀ k, k < 8 → (wSt k).add (wRec k) = (wSt (k + 1), 0)
 | 0, _ => by kernel_rfl
 | 1, _ => by kernel_rfl
 | 2, _ => by kernel_rfl
 | 3, _ => by kernel_rfl
 | 4, _ => by kernel_rfl
 | 5, _ => by kernel_rfl
 | 6, _ => by kernel_rfl
 | 7, _ => by kernel_rfl
 | n + 8, h => absurd h (by omega)
theorem wSt_top : ∀ k, k ≤ 8 → (wSt k).add (wTop k) = (wAll k, 0)
 | 0, _ => by kernel_rfl
 | 1, _ => by kernel_rfl
 | 2, _ => by kernel_rfl
 | 3, _ => by kernel_rfl
 | 4, _ => by kernel_rfl
 | 5, _ => by kernel_rfl
 | 6, _ => by kernel_rfl
 | 7, _ => by kernel_rfl
 | 8, _ => by kernel_rfl
 | n + 9, h => absurd h (by omega)
def wL (k : Nat) : List Ent := ⟨(n_cc, 1, 0, 0), 0, ch0⟩ :: ((List.range k).map fun i => ⟨(wN i, 1, 0, 0), 1, ((n_cc, 1, 0, 0), [])⟩) ++ [⟨(n_top, 1, 0, 0), 2, ((n_cc, 1, 0, 0), (List.range k).map fun i => (wN i, 1, 0, 0))⟩]
theorem wAll_fix : ∀ k, 1 ≤ k → k ≤ 8 → fixT (wAll k) 2000 = some (wL k, [], 2 * (k : Int) + 2)
 | 0, h, _ => absurd h (by omega)
 | 1, _, _ => fixCT_T (n := 30) (by kernel_rfl)
 | 2, _, _ => fixCT_T (n := 30) (by kernel_rfl)
 | 3, _, _ => fixCT_T (n := 30) (by kernel_rfl)
 | 4, _, _ => fixCT_T (n := 30) (by kernel_rfl)
 | 5, _, _ => fixCT_T (n := 30) (by kernel_rfl)
 | 6, _, _ => fixCT_T (n := 30) (by kernel_rfl)
 | 7, _, _ => fixCT_T (n := 30) (by kernel_rfl)
 | 8, _, _ => fixCT_T (n := 30) (by kernel_rfl)
 | n + 9, _, h => absurd h (by omega)
theorem wL_get1 : ∀ i, i < 1 → getE (wL 1) (wN i, 1, 0, 0) = (⟨(wN i, 1, 0, 0), 1, ((n_cc, 1, 0, 0), [])⟩, true)
 | 0, _ => by kernel_rfl
 | n + 1, h => absurd h (by omega)
theorem wL_get2 : ∀ i, i < 2 → getE (wL 2) (wN i, 1, 0, 0) = (⟨(wN i, 1, 0, 0), 1, ((n_cc, 1, 0, 0), [])⟩, true)
 | 0, _ => by kernel_rfl
 | 1, _ => by kernel_rfl
 | n + 2, h => absurd h (by omega)
theorem wL_get3 : ∀ i, i < 3 → getE (wL 3) (wN i, 1, 0, 0) = (⟨(wN i, 1, 0, 0), 1, ((n_cc, 1, 0, 0), [])⟩, true)
 | 0, _ => by kernel_rfl
 | 1, _ => by kernel_rfl
 | 2, _ => by kernel_rfl
 | n + 3, h => absurd h (by omega)
theorem wL_get4 : ∀ i, i < 4 → getE (wL 4) (wN i, 1, 0, 0) = (⟨(wN i, 1, 0, 0), 1, ((n_cc, 1, 0, 0), [])⟩, true)
 | 0, _ => by kernel_rfl
 | 1, _ => by kernel_rfl
 | 2, _ => by kernel_rfl
 | 3, _ => by kernel_rfl
 | n + 4, h => absurd h (by omega)
theorem wL_get5 : ∀ i, i < 5 → getE (wL 5) (wN i, 1, 0, 0) = (⟨(wN i, 1, 0, 0), 1, ((n_cc, 1, 0, 0), [])⟩, true)
 | 0, _ => by kernel_rfl
 | 1, _ => by kernel_rfl
 | 2, _ => by kernel_rfl
 | 3, _ => by kernel_rfl
 | 4, _ => by kernel_rfl
 | n + 5, h => absurd h (by omega)
theorem wL_get6 : ∀ i, i < 6 → getE (wL 6) (wN i, 1, 0, 0) = (⟨(wN i, 1, 0, 0), 1, ((n_cc, 1, 0, 0), [])⟩, true)
 | 0, _ => by kernel_rfl
 | 1, _ => by kernel_rfl
 | 2, _ => by kernel_rfl
 | 3, _ => by kernel_rfl
 | 4, _ => by kernel_rfl
 | 5, _ => by kernel_rfl
 | n + 6, h => absurd h (by omega)
theorem wL_get7 : ∀ i, i < 7 → getE (wL 7) (wN i, 1, 0, 0) = (⟨(wN i, 1, 0, 0), 1, ((n_cc, 1, 0, 0), [])⟩, true)
 | 0, _ => by kernel_rfl
 | 1, _ => by kernel_rfl
 | 2, _ => by kernel_rfl
 | 3, _ => by kernel_rfl
 | 4, _ => by kernel_rfl
 | 5, _ => by kernel_rfl
 | 6, _ => by kernel_rfl
 | n + 7, h => absurd h (by omega)
theorem wL_get8 : ∀ i, i < 8 → getE (wL 8) (wN i, 1, 0, 0) = (⟨(wN i, 1, 0, 0), 1, ((n_cc, 1, 0, 0), [])⟩, true)
 | 0, _ => by kernel_rfl
 | 1, _ => by kernel_rfl
 | 2, _ => by kernel_rfl
 | 3, _ => by kernel_rfl
 | 4, _ => by kernel_rfl
 | 5, _ => by kernel_rfl
 | 6, _ => by kernel_rfl
 | 7, _ => by kernel_rfl
 | n + 8, h => absurd h (by omega)
theorem wL_get : ∀ k, k ≤ 8 → ∀ i, i < k → getE (wL k) (wN i, 1, 0, 0) = (⟨(wN i, 1, 0, 0), 1, ((n_cc, 1, 0, 0), [])⟩, true)
 | 0, _, i, h => absurd h (by omega)
 | 1, _, i, h => wL_get1 i h
 | 2, _, i, h => wL_get2 i h
 | 3, _, i, h => wL_get3 i h
 | 4, _, i, h => wL_get4 i h
 | 5, _, i, h => wL_get5 i h
 | 6, _, i, h => wL_get6 i h
 | 7, _, i, h => wL_get7 i h
 | 8, _, i, h => wL_get8 i h
 | n + 9, h, _, _ => absurd h (by omega)
theorem wL_top : ∀ k, k ≤ 8 → getE (wL k) (n_top, 1, 0, 0) = (⟨(n_top, 1, 0, 0), 2, ((n_cc, 1, 0, 0), (List.range k).map fun i => (wN i, 1, 0, 0))⟩, true)
 | 0, _ => by kernel_rfl
 | 1, _ => by kernel_rfl
 | 2, _ => by kernel_rfl
 | 3, _ => by kernel_rfl
 | 4, _ => by kernel_rfl
 | 5, _ => by kernel_rfl
 | 6, _ => by kernel_rfl
 | 7, _ => by kernel_rfl
 | 8, _ => by kernel_rfl
 | n + 9, h => absurd h (by omega)
end Go.Proofs.YtaagkndhgicifaaGreat
