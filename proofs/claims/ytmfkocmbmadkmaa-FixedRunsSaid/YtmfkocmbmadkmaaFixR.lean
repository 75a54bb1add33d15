/- The law FixedRuns: that it answers true. -/
import Derived.Test.YtmfkocmbmadkmaaFixed6
namespace Go.Proofs.Ytmfkocmbmadkmaa.Abs
open Go Go.Proofs
theorem lawFixedRuns (S : ASt) : ACalls Try.prog 3 [] S fun v S' => v = .bool true := (fixedRuns S).mono fun _ _ h => h.1
end Go.Proofs.Ytmfkocmbmadkmaa.Abs
