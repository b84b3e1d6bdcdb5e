/- DERIVED. The walks of the library's strings.Index, Count, Split at a stroke. -/
import Derived.Test.YtjcimajkjnjdpaaDoorWords
import Derived.Test.YtjcimajkjnjdpaaDoorPathMath
import Derived.Lib.Bytealg
import Derived.Laws.MakeOwn
namespace Go.Proofs.YtjcimajkjnjdpaaDoor
open Go.RowKit
set_option linter.unusedVariables false
set_option maxRecDepth 100000

theorem run_make_rowN {P : Program} (t e : TypeId) (i : TypeInfo) (z : Value) (ht : P.underlying t = some (.slice e)) (hi : P.info? e = some i) (hz : i.zero = some z)
    (kl kc : IntKind) (n c : Nat) (hnc : n ≤ c) (hbytes : i.bytes * c ≤ 281474976710656) (h63 : c ≤ 9223372036854775807) (w : World) :
    (Instr.makeSlice t (.int kl (n : Int)) (.int kc (c : Int))).run P w = .ok (.slice (some ⟨w.heap.size, 0, none⟩) n c) (w.alloc (.cells (madeCells z.cells (c * i.size)) e)) := by
  have hb : (i.bytes : Int) * (c : Int) ≤ 281474976710656 := by
    have h : ((i.bytes * c : Nat) : Int) ≤ 281474976710656 := by omega
    rwa [Int.natCast_mul] at h
  have hr := run_make (P := P) w t e i z ht hi hz kl kc n c (by omega) (by omega) hb (by omega)
  simp only [Int.toNat_natCast] at hr
  exact hr
/-- Where the first stroke stands; -1: nowhere. -/
def idxI (s : ByteArray) : Int := Lib.indexByte s.data.toList 47
set_option maxHeartbeats 400000 in
set_option maxRecDepth 100000 in
theorem index_any (s : ByteArray) (w : World) :
    Calls Tryd.prog 68 #[.string s, .string ⟨#[47]⟩] w fun e w' => e = .returned (.int .i64 (idxI s)) ∧ w = w' := by
  have h0 : ∀ w, Calls Tryd.prog 73 #[.string s, .int .u8 47] w fun e w' => e = .returned (.int .i64 (idxI s)) ∧ w = w' := by
    intro w
    go_enter Tryd.func73, Tryd.ntmps73
    go_wp2_with fail
    rw [run_callFunc_extern (P := Tryd.prog) Tryd.func89 (by kernel_rfl) (by kernel_rfl) (by kernel_rfl) (e := Extern.BytealgIndexByte.indexByte) (by kernel_rfl), Lib.run_indexByteString]
    go_wp2
    go_ret
    exact ⟨rfl, rfl⟩
  have h1 : Calls Tryd.prog 54 #[.string s, .string ⟨#[47]⟩] w fun e w' => e = .returned (.int .i64 (idxI s)) ∧ w = w' := by
    by_cases hs : s.data.toList = [47]
    · have e : idxI s = 0 := by unfold idxI; rw [hs]; decide
      rw [e]
      obtain rfl : s = ⟨#[47]⟩ := by
        apply ByteArray.ext
        apply Array.ext'
        exact hs
      clear hs e h0
      go_enter Tryd.func54, Tryd.ntmps54
      go_wp2
      go_ret
      exact ⟨rfl, rfl⟩
    · have hq : ([47] == s.toList) = false := by
        rw [ByteArray.toList_eq]
        simpa using fun e => hs e.symm
      have H0 := Lib.hid h0
      clear hs h0
      go_enter Tryd.func54, Tryd.ntmps54
      go_wp2_with fail
      refine (H0.out _).mono ?_
      rintro e w' ⟨rfl, rfl⟩
      go_wp2
      go_ret
      exact ⟨rfl, rfl⟩
  go_enter Tryd.func68, Tryd.ntmps68
  go_wp2_with fail
  refine h1.mono ?_
  rintro e w' ⟨rfl, rfl⟩
  go_wp2
  go_ret
  exact ⟨rfl, rfl⟩
set_option maxHeartbeats 400000 in
theorem count_any (s : ByteArray) (w : World) :
    Calls Tryd.prog 67 #[.string s, .string ⟨#[47]⟩] w fun e w' => e = .returned (.int .i64 (s.data.toList.count 47)) ∧ w = w' := by
  go_enter Tryd.func67, Tryd.ntmps67
  go_wp2_with fail
  rw [run_callFunc_extern (P := Tryd.prog) Tryd.func85 (by kernel_rfl) (by kernel_rfl) (by kernel_rfl) (e := Extern.BytealgCount.count) (by kernel_rfl), Lib.run_countString]
  go_wp2
  go_ret
  exact ⟨rfl, rfl⟩
end Go.Proofs.YtjcimajkjnjdpaaDoor
