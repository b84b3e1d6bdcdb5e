/-
  NARROWER THAN 'FOR EVERY INPUT', by the rows' own cells (each row's printed sentence says how): SexpWrites: loops, laid · SexpReads: laid · SexpBack: loops, laid · SexpTells: loops, laid · SexpLeaves: loops, laid · SexpKeeps: loops, laid.
  DERIVED. THE GIVEN ROWS OF THIS SEAT. 6 by the template 'for every input the law returns true; each argument reads behind the call as it read before'; 0 by the template 'total and deterministic' (their statements: YtnekmmknjhflgaaDoorTotals.lean).
  GIVEN WITH THE SEED: the statements are not yours to turn. If you find one false, say at which input.
  Laid BY PROGRAM, IN A SANDBOX (cutbox-rows.mjs): the forced cells as the released guide's own fill.sh prints them over the translation 999162bdee337620… (all of the seat's roots in one cut). By AI agents, Wed Nov 11 2026. No macro, syntax, notation, axiom, sorry.
-/
import Derived.Test.YtnekmmknjhflgaaDoorChecked
import GoSem.Claim
import GoSem.ClaimJoined
import GoSem.ClaimMapViews
import Derived.JoinedTies
import Derived.KernelRfl
namespace Go.Proofs.YtnekmmknjhflgaaDoor
/- THE CELL 'sum', in the pinned program and in every row, IS THE sha256 OF THE DUMP (.gsa) THAT YtnekmmknjhflgaaDoorProg.lean LOADS. Nothing in Lean hashes anything: it is a label: what it is worth is what the hold of that sum in a sandbox is worth. -/
noncomputable def Tryd.pinned : Pinned := { name := "ytnekmmknjhflgaadoor", sum := "999162bdee337620743d74085893f374479cfdf13dc038514136b48afcef2f02", checked := Tryd.checked }
namespace Rows
def none {H : Type} : Left H := { results := [], args := [] }

/- WHAT THE LISTED PACKAGE-LEVEL VARIABLES READ AS WHEN THE CALL BEGINS. Each datum BY PROGRAM (the guide's laid-datum.mjs) off the statement by which the dump's own 'gosem.cut.vars' lays the variable. In a bare row this is a premise. The card (YtnekmmknjhflgaaDoorCards.lean) ties it to the program's text. -/
def laid_math_bits_deBruijn32tab {H : Type} : DataW H := .agg [.lit (.int .u8 0), .lit (.int .u8 1), .lit (.int .u8 28), .lit (.int .u8 2), .lit (.int .u8 29), .lit (.int .u8 14), .lit (.int .u8 24), .lit (.int .u8 3), .lit (.int .u8 30), .lit (.int .u8 22), .lit (.int .u8 20), .lit (.int .u8 15), .lit (.int .u8 25), .lit (.int .u8 17), .lit (.int .u8 4), .lit (.int .u8 8), .lit (.int .u8 31), .lit (.int .u8 27), .lit (.int .u8 13), .lit (.int .u8 23), .lit (.int .u8 21), .lit (.int .u8 19), .lit (.int .u8 16), .lit (.int .u8 7), .lit (.int .u8 26), .lit (.int .u8 12), .lit (.int .u8 18), .lit (.int .u8 6), .lit (.int .u8 11), .lit (.int .u8 5), .lit (.int .u8 10), .lit (.int .u8 9)]
def laid_math_bits_deBruijn64tab {H : Type} : DataW H := .agg [.lit (.int .u8 0), .lit (.int .u8 1), .lit (.int .u8 56), .lit (.int .u8 2), .lit (.int .u8 57), .lit (.int .u8 49), .lit (.int .u8 28), .lit (.int .u8 3), .lit (.int .u8 61), .lit (.int .u8 58), .lit (.int .u8 42), .lit (.int .u8 50), .lit (.int .u8 38), .lit (.int .u8 29), .lit (.int .u8 17), .lit (.int .u8 4), .lit (.int .u8 62), .lit (.int .u8 47), .lit (.int .u8 59), .lit (.int .u8 36), .lit (.int .u8 45), .lit (.int .u8 43), .lit (.int .u8 51), .lit (.int .u8 22), .lit (.int .u8 53), .lit (.int .u8 39), .lit (.int .u8 33), .lit (.int .u8 30), .lit (.int .u8 24), .lit (.int .u8 18), .lit (.int .u8 12), .lit (.int .u8 5), .lit (.int .u8 63), .lit (.int .u8 55), .lit (.int .u8 48), .lit (.int .u8 27), .lit (.int .u8 60), .lit (.int .u8 41), .lit (.int .u8 37), .lit (.int .u8 16), .lit (.int .u8 46), .lit (.int .u8 35), .lit (.int .u8 44), .lit (.int .u8 21), .lit (.int .u8 52), .lit (.int .u8 32), .lit (.int .u8 23), .lit (.int .u8 11), .lit (.int .u8 54), .lit (.int .u8 26), .lit (.int .u8 40), .lit (.int .u8 15), .lit (.int .u8 34), .lit (.int .u8 20), .lit (.int .u8 31), .lit (.int .u8 10), .lit (.int .u8 25), .lit (.int .u8 14), .lit (.int .u8 19), .lit (.int .u8 9), .lit (.int .u8 13), .lit (.int .u8 8), .lit (.int .u8 7), .lit (.int .u8 6)]
def laid_internal_strconv_uint64pow10 {H : Type} : DataW H := .agg [.lit (.int .u64 1), .lit (.int .u64 10), .lit (.int .u64 100), .lit (.int .u64 1000), .lit (.int .u64 10000), .lit (.int .u64 100000), .lit (.int .u64 1000000), .lit (.int .u64 10000000), .lit (.int .u64 100000000), .lit (.int .u64 1000000000), .lit (.int .u64 10000000000), .lit (.int .u64 100000000000), .lit (.int .u64 1000000000000), .lit (.int .u64 10000000000000), .lit (.int .u64 100000000000000), .lit (.int .u64 1000000000000000), .lit (.int .u64 10000000000000000), .lit (.int .u64 100000000000000000), .lit (.int .u64 1000000000000000000), .lit (.int .u64 10000000000000000000)]

/-- 'saplinglaw01.SexpWrites': WHATEVER THE INPUT: true; the input reads as it did. -/
def sexpWritesSpec : ChangeSpec := { name := "sexpWrites", fn := fun _ => fun
  | [d] => { results := [.lit (.bool true)], args := [d] }
  | _ => none }
def sexpWritesRow : OpenClaim := { program := "ytnekmmknjhflgaadoor", sum := "999162bdee337620743d74085893f374479cfdf13dc038514136b48afcef2f02", func := "sapling/saplinglaw01.SexpWrites", spec := "sexpWrites", unfollowed := true, recurses := true, named := ["internal/strconv.uint64pow10", "math/bits.deBruijn32tab", "math/bits.deBruijn64tab"], loops := true, apart := false, laid := [("math/bits.deBruijn32tab", laid_math_bits_deBruijn32tab), ("math/bits.deBruijn64tab", laid_math_bits_deBruijn64tab), ("internal/strconv.uint64pow10", laid_internal_strconv_uint64pow10)] }
def SexpWritesSaid : Prop := sexpWritesRow.holds Tryd.pinned (OpenSpec.ofChange sexpWritesSpec)

/-- ITS FALSE NEIGHBOUR: 'it returns false'. Refute it at one input. -/
def sexpWritesWrong : ChangeSpec := { name := "sexpWrites", fn := fun _ => fun
  | [d] => { results := [.lit (.bool false)], args := [d] }
  | _ => none }
def SexpWritesWrongFalsely : Prop := sexpWritesRow.holds Tryd.pinned (OpenSpec.ofChange sexpWritesWrong)

/-- 'saplinglaw01.SexpReads': WHATEVER THE INPUT: true; the input reads as it did. -/
def sexpReadsSpec : ChangeSpec := { name := "sexpReads", fn := fun _ => fun
  | [d] => { results := [.lit (.bool true)], args := [d] }
  | _ => none }
def sexpReadsRow : OpenClaim := { program := "ytnekmmknjhflgaadoor", sum := "999162bdee337620743d74085893f374479cfdf13dc038514136b48afcef2f02", func := "sapling/saplinglaw01.SexpReads", spec := "sexpReads", unfollowed := true, recurses := true, named := ["internal/strconv.uint64pow10", "math/bits.deBruijn32tab", "math/bits.deBruijn64tab"], apart := false, laid := [("math/bits.deBruijn32tab", laid_math_bits_deBruijn32tab), ("math/bits.deBruijn64tab", laid_math_bits_deBruijn64tab), ("internal/strconv.uint64pow10", laid_internal_strconv_uint64pow10)] }
def SexpReadsSaid : Prop := sexpReadsRow.holds Tryd.pinned (OpenSpec.ofChange sexpReadsSpec)

/-- ITS FALSE NEIGHBOUR: 'it returns false'. Refute it at one input. -/
def sexpReadsWrong : ChangeSpec := { name := "sexpReads", fn := fun _ => fun
  | [d] => { results := [.lit (.bool false)], args := [d] }
  | _ => none }
def SexpReadsWrongFalsely : Prop := sexpReadsRow.holds Tryd.pinned (OpenSpec.ofChange sexpReadsWrong)

/-- 'saplinglaw01.SexpBack': WHATEVER THE INPUT: true; the input reads as it did. -/
def sexpBackSpec : ChangeSpec := { name := "sexpBack", fn := fun _ => fun
  | [d1, d2] => { results := [.lit (.bool true)], args := [d1, d2] }
  | _ => none }
def sexpBackRow : OpenClaim := { program := "ytnekmmknjhflgaadoor", sum := "999162bdee337620743d74085893f374479cfdf13dc038514136b48afcef2f02", func := "sapling/saplinglaw01.SexpBack", spec := "sexpBack", unfollowed := true, recurses := true, named := ["internal/strconv.uint64pow10", "math/bits.deBruijn32tab", "math/bits.deBruijn64tab"], loops := true, apart := false, laid := [("math/bits.deBruijn32tab", laid_math_bits_deBruijn32tab), ("math/bits.deBruijn64tab", laid_math_bits_deBruijn64tab), ("internal/strconv.uint64pow10", laid_internal_strconv_uint64pow10)] }
def SexpBackSaid : Prop := sexpBackRow.holds Tryd.pinned (OpenSpec.ofChange sexpBackSpec)

/-- ITS FALSE NEIGHBOUR: 'it returns false'. Refute it at one input. -/
def sexpBackWrong : ChangeSpec := { name := "sexpBack", fn := fun _ => fun
  | [d1, d2] => { results := [.lit (.bool false)], args := [d1, d2] }
  | _ => none }
def SexpBackWrongFalsely : Prop := sexpBackRow.holds Tryd.pinned (OpenSpec.ofChange sexpBackWrong)

/-- 'saplinglaw01.SexpTells': WHATEVER THE INPUT: true; the input reads as it did. -/
def sexpTellsSpec : ChangeSpec := { name := "sexpTells", fn := fun _ => fun
  | [d1, d2] => { results := [.lit (.bool true)], args := [d1, d2] }
  | _ => none }
def sexpTellsRow : OpenClaim := { program := "ytnekmmknjhflgaadoor", sum := "999162bdee337620743d74085893f374479cfdf13dc038514136b48afcef2f02", func := "sapling/saplinglaw01.SexpTells", spec := "sexpTells", unfollowed := true, recurses := true, named := ["internal/strconv.uint64pow10", "math/bits.deBruijn32tab", "math/bits.deBruijn64tab"], loops := true, apart := false, laid := [("math/bits.deBruijn32tab", laid_math_bits_deBruijn32tab), ("math/bits.deBruijn64tab", laid_math_bits_deBruijn64tab), ("internal/strconv.uint64pow10", laid_internal_strconv_uint64pow10)] }
def SexpTellsSaid : Prop := sexpTellsRow.holds Tryd.pinned (OpenSpec.ofChange sexpTellsSpec)

/-- ITS FALSE NEIGHBOUR: 'it returns false'. Refute it at one input. -/
def sexpTellsWrong : ChangeSpec := { name := "sexpTells", fn := fun _ => fun
  | [d1, d2] => { results := [.lit (.bool false)], args := [d1, d2] }
  | _ => none }
def SexpTellsWrongFalsely : Prop := sexpTellsRow.holds Tryd.pinned (OpenSpec.ofChange sexpTellsWrong)

/-- 'saplinglaw01.SexpLeaves': WHATEVER THE INPUT: true; the input reads as it did. -/
def sexpLeavesSpec : ChangeSpec := { name := "sexpLeaves", fn := fun _ => fun
  | [d1, d2] => { results := [.lit (.bool true)], args := [d1, d2] }
  | _ => none }
def sexpLeavesRow : OpenClaim := { program := "ytnekmmknjhflgaadoor", sum := "999162bdee337620743d74085893f374479cfdf13dc038514136b48afcef2f02", func := "sapling/saplinglaw01.SexpLeaves", spec := "sexpLeaves", unfollowed := true, recurses := true, named := ["internal/strconv.uint64pow10", "math/bits.deBruijn32tab", "math/bits.deBruijn64tab"], loops := true, apart := false, laid := [("math/bits.deBruijn32tab", laid_math_bits_deBruijn32tab), ("math/bits.deBruijn64tab", laid_math_bits_deBruijn64tab), ("internal/strconv.uint64pow10", laid_internal_strconv_uint64pow10)] }
def SexpLeavesSaid : Prop := sexpLeavesRow.holds Tryd.pinned (OpenSpec.ofChange sexpLeavesSpec)

/-- ITS FALSE NEIGHBOUR: 'it returns false'. Refute it at one input. -/
def sexpLeavesWrong : ChangeSpec := { name := "sexpLeaves", fn := fun _ => fun
  | [d1, d2] => { results := [.lit (.bool false)], args := [d1, d2] }
  | _ => none }
def SexpLeavesWrongFalsely : Prop := sexpLeavesRow.holds Tryd.pinned (OpenSpec.ofChange sexpLeavesWrong)

/-- 'saplinglaw01.SexpKeeps': WHATEVER THE INPUT: true; the input reads as it did. -/
def sexpKeepsSpec : ChangeSpec := { name := "sexpKeeps", fn := fun _ => fun
  | [d1, d2] => { results := [.lit (.bool true)], args := [d1, d2] }
  | _ => none }
def sexpKeepsRow : OpenClaim := { program := "ytnekmmknjhflgaadoor", sum := "999162bdee337620743d74085893f374479cfdf13dc038514136b48afcef2f02", func := "sapling/saplinglaw01.SexpKeeps", spec := "sexpKeeps", unfollowed := true, recurses := true, named := ["internal/strconv.uint64pow10", "math/bits.deBruijn32tab", "math/bits.deBruijn64tab"], loops := true, apart := false, laid := [("math/bits.deBruijn32tab", laid_math_bits_deBruijn32tab), ("math/bits.deBruijn64tab", laid_math_bits_deBruijn64tab), ("internal/strconv.uint64pow10", laid_internal_strconv_uint64pow10)] }
def SexpKeepsSaid : Prop := sexpKeepsRow.holds Tryd.pinned (OpenSpec.ofChange sexpKeepsSpec)

/-- ITS FALSE NEIGHBOUR: 'it returns false'. Refute it at one input. -/
def sexpKeepsWrong : ChangeSpec := { name := "sexpKeeps", fn := fun _ => fun
  | [d1, d2] => { results := [.lit (.bool false)], args := [d1, d2] }
  | _ => none }
def SexpKeepsWrongFalsely : Prop := sexpKeepsRow.holds Tryd.pinned (OpenSpec.ofChange sexpKeepsWrong)

/- THE SECOND FORM. 'bulk': how many values and letters a reading holds, each counted each time it is reached (what is shared counts as often as it is met; a slice's spare places count too). A statement '..UptoSaid' is the law's where the arguments, and the package variables that the reading takes, are together of bulk at most 1048576: NARROWER than '..Said'. Prove '..Said' where nothing that the law and all that it calls make is longer than what came in: it says more and counts as full. Else prove '..UptoSaid'. A law counts once. -/
mutual
def uptoBulk {H : Type} : DataW H → Nat
  | .lit (.string bytes) => bytes.length + 1
  | .lit _ => 1
  | .nil => 1
  | .ptr d => uptoBulk d + 1
  | .slice elems spare => uptoBulkAll elems + uptoBulkAll spare + 1
  | .agg parts => uptoBulkAll parts + 1
  | .iface _ d => uptoBulk d + 1
  | .map entries => uptoBulkEntries entries + 1
  | .held _ => 1
def uptoBulkAll {H : Type} : List (DataW H) → Nat
  | [] => 0
  | d :: r => uptoBulk d + uptoBulkAll r
def uptoBulkEntries {H : Type} : List (Lit × DataW H) → Nat
  | [] => 0
  | x :: r => uptoBulkEntry x + uptoBulkEntries r
def uptoBulkEntry {H : Type} : Lit × DataW H → Nat
  | (.string bytes, d) => bytes.length + uptoBulk d + 1
  | (_, d) => uptoBulk d + 1
 end
def uptoSmall : (H : Type) → List (DataW H) → Bool := fun _ ds => decide (uptoBulkAll ds ≤ 1048576)
def OpenSpec.upto (s : _root_.Go.ChangeSpec) : _root_.Go.OpenSpec := { _root_.Go.OpenSpec.ofChange s with cond := some uptoSmall }

/-- 'saplinglaw01.SexpWrites', WHERE WHAT IT READS IS OF BULK AT MOST 1048576: true; the input reads as it did. -/
def sexpWritesUptoRow : OpenClaim := { program := "ytnekmmknjhflgaadoor", sum := "999162bdee337620743d74085893f374479cfdf13dc038514136b48afcef2f02", func := "sapling/saplinglaw01.SexpWrites", spec := "sexpWrites", unfollowed := true, recurses := true, named := ["internal/strconv.uint64pow10", "math/bits.deBruijn32tab", "math/bits.deBruijn64tab"], loops := true, apart := false, laid := [("math/bits.deBruijn32tab", laid_math_bits_deBruijn32tab), ("math/bits.deBruijn64tab", laid_math_bits_deBruijn64tab), ("internal/strconv.uint64pow10", laid_internal_strconv_uint64pow10)], narrowed := true }
def SexpWritesUptoSaid : Prop := sexpWritesUptoRow.holds Tryd.pinned (OpenSpec.upto sexpWritesSpec)

/-- 'saplinglaw01.SexpReads', WHERE WHAT IT READS IS OF BULK AT MOST 1048576: true; the input reads as it did. -/
def sexpReadsUptoRow : OpenClaim := { program := "ytnekmmknjhflgaadoor", sum := "999162bdee337620743d74085893f374479cfdf13dc038514136b48afcef2f02", func := "sapling/saplinglaw01.SexpReads", spec := "sexpReads", unfollowed := true, recurses := true, named := ["internal/strconv.uint64pow10", "math/bits.deBruijn32tab", "math/bits.deBruijn64tab"], apart := false, laid := [("math/bits.deBruijn32tab", laid_math_bits_deBruijn32tab), ("math/bits.deBruijn64tab", laid_math_bits_deBruijn64tab), ("internal/strconv.uint64pow10", laid_internal_strconv_uint64pow10)], narrowed := true }
def SexpReadsUptoSaid : Prop := sexpReadsUptoRow.holds Tryd.pinned (OpenSpec.upto sexpReadsSpec)

/-- 'saplinglaw01.SexpBack', WHERE WHAT IT READS IS OF BULK AT MOST 1048576: true; the input reads as it did. -/
def sexpBackUptoRow : OpenClaim := { program := "ytnekmmknjhflgaadoor", sum := "999162bdee337620743d74085893f374479cfdf13dc038514136b48afcef2f02", func := "sapling/saplinglaw01.SexpBack", spec := "sexpBack", unfollowed := true, recurses := true, named := ["internal/strconv.uint64pow10", "math/bits.deBruijn32tab", "math/bits.deBruijn64tab"], loops := true, apart := false, laid := [("math/bits.deBruijn32tab", laid_math_bits_deBruijn32tab), ("math/bits.deBruijn64tab", laid_math_bits_deBruijn64tab), ("internal/strconv.uint64pow10", laid_internal_strconv_uint64pow10)], narrowed := true }
def SexpBackUptoSaid : Prop := sexpBackUptoRow.holds Tryd.pinned (OpenSpec.upto sexpBackSpec)

/-- 'saplinglaw01.SexpTells', WHERE WHAT IT READS IS OF BULK AT MOST 1048576: true; the input reads as it did. -/
def sexpTellsUptoRow : OpenClaim := { program := "ytnekmmknjhflgaadoor", sum := "999162bdee337620743d74085893f374479cfdf13dc038514136b48afcef2f02", func := "sapling/saplinglaw01.SexpTells", spec := "sexpTells", unfollowed := true, recurses := true, named := ["internal/strconv.uint64pow10", "math/bits.deBruijn32tab", "math/bits.deBruijn64tab"], loops := true, apart := false, laid := [("math/bits.deBruijn32tab", laid_math_bits_deBruijn32tab), ("math/bits.deBruijn64tab", laid_math_bits_deBruijn64tab), ("internal/strconv.uint64pow10", laid_internal_strconv_uint64pow10)], narrowed := true }
def SexpTellsUptoSaid : Prop := sexpTellsUptoRow.holds Tryd.pinned (OpenSpec.upto sexpTellsSpec)

/-- 'saplinglaw01.SexpLeaves', WHERE WHAT IT READS IS OF BULK AT MOST 1048576: true; the input reads as it did. -/
def sexpLeavesUptoRow : OpenClaim := { program := "ytnekmmknjhflgaadoor", sum := "999162bdee337620743d74085893f374479cfdf13dc038514136b48afcef2f02", func := "sapling/saplinglaw01.SexpLeaves", spec := "sexpLeaves", unfollowed := true, recurses := true, named := ["internal/strconv.uint64pow10", "math/bits.deBruijn32tab", "math/bits.deBruijn64tab"], loops := true, apart := false, laid := [("math/bits.deBruijn32tab", laid_math_bits_deBruijn32tab), ("math/bits.deBruijn64tab", laid_math_bits_deBruijn64tab), ("internal/strconv.uint64pow10", laid_internal_strconv_uint64pow10)], narrowed := true }
def SexpLeavesUptoSaid : Prop := sexpLeavesUptoRow.holds Tryd.pinned (OpenSpec.upto sexpLeavesSpec)

/-- 'saplinglaw01.SexpKeeps', WHERE WHAT IT READS IS OF BULK AT MOST 1048576: true; the input reads as it did. -/
def sexpKeepsUptoRow : OpenClaim := { program := "ytnekmmknjhflgaadoor", sum := "999162bdee337620743d74085893f374479cfdf13dc038514136b48afcef2f02", func := "sapling/saplinglaw01.SexpKeeps", spec := "sexpKeeps", unfollowed := true, recurses := true, named := ["internal/strconv.uint64pow10", "math/bits.deBruijn32tab", "math/bits.deBruijn64tab"], loops := true, apart := false, laid := [("math/bits.deBruijn32tab", laid_math_bits_deBruijn32tab), ("math/bits.deBruijn64tab", laid_math_bits_deBruijn64tab), ("internal/strconv.uint64pow10", laid_internal_strconv_uint64pow10)], narrowed := true }
def SexpKeepsUptoSaid : Prop := sexpKeepsUptoRow.holds Tryd.pinned (OpenSpec.upto sexpKeepsSpec)

end Rows
end Go.Proofs.YtnekmmknjhflgaaDoor
