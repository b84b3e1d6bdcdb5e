/- DERIVED. The form's reach, argument by argument. -/
import Derived.SizedLaws
import Derived.Deep.Slices
import Derived.ProofKit
namespace Go.Proofs.YtaagkndhgicifaaGreat
open Go.RowKit Go.ChangeShapes Go.WideShapes
end Go.Proofs.YtaagkndhgicifaaGreat
