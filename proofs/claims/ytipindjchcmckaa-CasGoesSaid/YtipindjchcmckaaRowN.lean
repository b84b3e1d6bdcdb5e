/- DERIVED. Rows whose elements have several cells: copy, append of zeros, insertion at a place. No program in sight. -/
import Derived.Test.YtipindjchcmckaaMem
import Derived.Lib.AppendZerosOnto
import Derived.Laws.CopyRow
namespace Go.Proofs.Ytipindjchcmckaa
open Go.RowKit

/-- 'copy' between rows whose elements have sz cells. -/
theorem run_copy_rowN {P : Program} (w : World) (dT sT ty elem : TypeId) (sz : Nat) (g o dLen dCap : Nat) (a : Addr) (sLen sCap : Nat) (cur : Array Value) (t : TypeId) (cs : List Value) (k : Nat)
    (hu : P.underlying dT = some (.slice elem)) (hs : (P.info? elem).map (·.size) = some sz)
    (hg : w.heap[g]? = some (.cells cur t (0, 0))) (hk : Nat.min sLen dLen = k) (hn : cs.length = k * sz)
    (hsrc : ∀ j v, cs[j]? = some v → w.cell? (a.add j) = some v) (hfit : o + cs.length ≤ cur.size) (h1 : ∀ v ∈ cs, v.oneCell' = true) :
    (Builtin.copy_ #[dT, sT] ty #[.slice (some ⟨g, o, none⟩) dLen dCap, .slice (some a) sLen sCap]).run P w =
      .ok (goInt k) (w.setRow g (cur.toList.take o ++ cs ++ cur.toList.drop (o + cs.length)).toArray) := by
  have hl := run_loadCells_list (P := P) w a cs hsrc
  have hst := run_storeCells_at P g o t cs 0 cur w hg (by simpa using hfit) h1
  rw [hn] at hl
  cases hq : P.info? elem with
  | none => simp [hq] at hs
  | some i =>
    have hi : i.size = sz := by simpa [hq] using hs
    simp [Builtin.copy_, run_underlying hu, Builtin.lenOf, Builtin.firstCells, sizeOf, typeInfo, hq, hi, hk, hl, hst]

/-- What a row holds behind the two copies of an insertion in place. -/
theorem ins_shift {α : Type} (cur : List α) (xs p : List α) (i n sz : Nat) (hx : cur.take (n * sz) = xs) (hxl : xs.length = n * sz) (hp : p.length = sz) (hi : i ≤ n) (hc : (n + 1) * sz ≤ cur.length) :
    let cur1 := cur.take ((i + 1) * sz) ++ xs.drop (i * sz) ++ cur.drop ((i + 1) * sz + (xs.drop (i * sz)).length)
    let cur2 := cur1.take (i * sz) ++ p ++ cur1.drop (i * sz + p.length)
    cur2.take ((n + 1) * sz) = xs.take (i * sz) ++ p ++ xs.drop (i * sz) ∧ cur1.length = cur.length ∧ cur2.length = cur.length := by
  intro cur1 cur2
  have h1 : i * sz ≤ n * sz := Nat.mul_le_mul_right _ hi
  have h2 : (i + 1) * sz = i * sz + sz := by rw [Nat.add_mul, Nat.one_mul]
  have h3 : (n + 1) * sz = n * sz + sz := by rw [Nat.add_mul, Nat.one_mul]
  have hd : (xs.drop (i * sz)).length = n * sz - i * sz := by rw [List.length_drop, hxl]
  have l1 : cur1.length = cur.length := by
    simp only [cur1, List.length_append, List.length_take, List.length_drop, hd]
    omega
  have t1 : cur1.take (i * sz) = xs.take (i * sz) := by
    simp only [cur1]
    rw [List.append_assoc, List.take_append_of_le_length (by rw [List.length_take]; omega), List.take_take, Nat.min_eq_left (by omega), ← hx, List.take_take, Nat.min_eq_left h1]
  have d1 : cur1.drop (i * sz + p.length) = xs.drop (i * sz) ++ cur.drop ((i + 1) * sz + (xs.drop (i * sz)).length) := by
    simp only [cur1]
    rw [List.append_assoc, hp, ← h2, List.drop_append, List.drop_eq_nil_of_le (by rw [List.length_take]; omega), List.nil_append, List.length_take, show (i + 1) * sz - min ((i + 1) * sz) cur.length = 0 from by omega, List.drop_zero]
  refine ⟨?_, l1, ?_⟩
  · simp only [cur2]
    rw [t1, d1, ← List.append_assoc, List.take_append_of_le_length (by simp only [List.length_append, List.length_take, hd, hp, hxl]; omega)]
    exact List.take_of_length_le (by simp only [List.length_append, List.length_take, hd, hp, hxl]; omega)
  · simp only [cur2]
    simp only [List.length_append, List.length_take, List.length_drop, l1, hp]
    omega
/-- The same, where a new row has been made. -/
theorem ins_grow {α : Type} (z r xs p : List α) (i n sz : Nat) (hxl : xs.length = n * sz) (hp : p.length = sz) (hi : i ≤ n) (hz : z.length = (n + 1 - i) * sz) :
    let row := xs.take (i * sz) ++ z ++ r
    let row1 := row.take (i * sz) ++ p ++ row.drop (i * sz + p.length)
    let row2 := row1.take ((i + 1) * sz) ++ xs.drop (i * sz) ++ row1.drop ((i + 1) * sz + (xs.drop (i * sz)).length)
    row2.take ((n + 1) * sz) = xs.take (i * sz) ++ p ++ xs.drop (i * sz) ∧ row1.length = row.length ∧ row2.length = row.length ∧ row.length = (n + 1) * sz + r.length := by
  intro row row1 row2
  have h1 : i * sz ≤ n * sz := Nat.mul_le_mul_right _ hi
  have h2 : (i + 1) * sz = i * sz + sz := by rw [Nat.add_mul, Nat.one_mul]
  have h3 : (n + 1) * sz = n * sz + sz := by rw [Nat.add_mul, Nat.one_mul]
  have h4 : (n + 1 - i) * sz = n * sz + sz - i * sz := by rw [Nat.sub_mul, h3]
  have hd : (xs.drop (i * sz)).length = n * sz - i * sz := by rw [List.length_drop, hxl]
  have lr : row.length = (n + 1) * sz + r.length := by
    simp only [row, List.length_append, List.length_take, hz, hxl]; omega
  have l1 : row1.length = row.length := by
    simp only [row1, List.length_append, List.length_take, List.length_drop, hp, lr]; omega
  have t0 : row.take (i * sz) = xs.take (i * sz) := by
    simp only [row]
    rw [List.append_assoc, List.take_append_of_le_length (by rw [List.length_take]; omega), List.take_take, Nat.min_self]
  have t1 : row1.take ((i + 1) * sz) = xs.take (i * sz) ++ p := by
    simp only [row1]
    rw [t0, List.take_append_of_le_length (by simp only [List.length_append, List.length_take, hp]; omega)]
    exact List.take_of_length_le (by simp only [List.length_append, List.length_take, hp]; omega)
  refine ⟨?_, l1, ?_, lr⟩
  · simp only [row2]
    rw [t1, List.take_append_of_le_length (by simp only [List.length_append, List.length_take, hd, hp, hxl]; omega)]
    exact List.take_of_length_le (by simp only [List.length_append, List.length_take, hd, hp, hxl]; omega)
  · simp only [row2, List.length_append, List.length_take, List.length_drop, l1, lr, hd]
    omega
end Go.Proofs.Ytipindjchcmckaa
