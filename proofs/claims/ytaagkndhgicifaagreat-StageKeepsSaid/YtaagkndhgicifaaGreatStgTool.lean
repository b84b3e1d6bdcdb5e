/- DERIVED. A recipe with a tool alone. -/
import Derived.Test.YtaagkndhgicifaaGreatSv11
namespace Go.Proofs.YtaagkndhgicifaaGreat
def toolR (n : List UInt8) (k : Int) (t : List UInt8) (lo hi : Int) : Rc := ⟨(n, k, 0, 0), (t, [(lo * 1000000, hi * 1000000)]), [], []⟩
end Go.Proofs.YtaagkndhgicifaaGreat
